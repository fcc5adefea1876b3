/- Walks of alike, aligned and Aligned (printed by gen_al.py). -/
import Derived.Test.YtbfhicimjijdeaaDoorStAlL
import Derived.Test.YtbfhicimjijdeaaDoorStMat
import Derived.Test.YtbfhicimjijdeaaDoorStEqB
import Derived.Test.YtbfhicimjijdeaaDoorStFolN
import Derived.Test.YtbfhicimjijdeaaDoorFam
import Derived.Deep.RegionHeld3
import Derived.Deep.DrawnRows
import Derived.StillTailTactics
import Derived.Outline
namespace Go.Proofs.YtbfhicimjijdeaaDoor
open Go.RowKit
set_option linter.unusedVariables false
attribute [local go_sem ↓] Go.wp_at_zero Go.wp_at_succ
theorem info_ints : (Tryd.prog.info? 87).map (fun i => (i.zero, i.size, i.bytes)) = some (some (.slice none 0 0), 1, 24) := by kernel_rfl
theorem info_int : (Tryd.prog.info? 3).map (fun i => (i.zero, i.size, i.bytes)) = some (some (.int .i64 0), 1, 8) := by kernel_rfl
theorem info_pair : (Tryd.prog.info? 37).map (fun i => (i.zero, i.size, i.bytes)) = some (some (.agg #[.int .i64 0, .int .i64 0]), 2, 16) := by kernel_rfl
/-- The cells of a pair. -/
def pcs (p : Nat × Nat) : List Value := [.int .i64 (p.1 : Nat), .int .i64 (p.2 : Nat)]
def GivesPairs (mk : Value → Value) (L : List (Nat × Nat)) (W : World) (e : Ending) (w' : World) : Prop := ∃ A N c, e = .returned (mk (.slice A N c)) ∧ Sl w' w'.heap.size pcs 2 A N L ∧ Below W.heap.size W w'
theorem made_nil (n : Nat) : (madeCells (Value.slice none 0 0).cells (n * 1)).toList = List.replicate n nilV := by rw [Nat.mul_one]; exact toList_madeCells_one _ _
theorem made_zero (n : Nat) : (madeCells (Value.int .i64 0).cells (n * 1)).toList = rowV n fun _ => 0 := by
  rw [Nat.mul_one]
  refine (toList_madeCells_one _ _).trans ?_
  rw [rowV]
  apply List.ext_getElem?
  intro j
  by_cases h : j < n <;> simp [h]
theorem fst_at {x : Frame} {b : List Frame} {k j : Nat} {y : Frame} (hkj : k ≤ j) (hy : b[j]? = some y) (ha : al x y = true) (hno : ∀ t z, k ≤ t → t < j → b[t]? = some z → al x z = false) : fst x (b.drop k) = some (j - k) :=
  fst_some (by rw [List.getElem?_drop, show k + (j - k) = j by omega]; exact hy) ha fun t z ht hz => hno (k + t) z (by omega) (by omega) (by rwa [List.getElem?_drop] at hz)
theorem step_take {a b : List Frame} {x : Frame} {i i' k j j' : Nat} (hx : a.drop i = x :: a.drop i') (hi : i' = i + 1) (hj : j' = j + 1) (hkj : k ≤ j) (hf : fst x (b.drop k) = some (j - k)) (e : lcs (a.drop i') (b.drop j') + 1 = lcs (a.drop i) (b.drop k)) :
    pr (a.drop i) i (b.drop k) k = (i, j) :: pr (a.drop i') i' (b.drop j') j' := by
  have hd : (b.drop k).drop (j - k + 1) = b.drop j' := by rw [List.drop_drop]; congr 1; omega
  rw [hx] at e ⊢
  rw [pr_take hf (by rw [hd]; exact e), hd, show k + (j - k) = j by omega, hi, hj]
theorem step_skip {a b : List Frame} {x : Frame} {i i' k j j' : Nat} (hx : a.drop i = x :: a.drop i') (hi : i' = i + 1) (hj : j' = j + 1) (hkj : k ≤ j) (hf : fst x (b.drop k) = some (j - k)) (e : ¬ lcs (a.drop i') (b.drop j') + 1 = lcs (a.drop i) (b.drop k)) :
    pr (a.drop i) i (b.drop k) k = pr (a.drop i') i' (b.drop k) k := by
  have hd : (b.drop k).drop (j - k + 1) = b.drop j' := by rw [List.drop_drop]; congr 1; omega
  rw [hx] at e ⊢
  rw [pr_skip hf (by rw [hd]; exact e), hi]
theorem step_none {a b : List Frame} {x : Frame} {i i' k : Nat} (hx : a.drop i = x :: a.drop i') (hi : i' = i + 1) (hno : ∀ t z, k ≤ t → b[t]? = some z → al x z = false) :
    pr (a.drop i) i (b.drop k) k = pr (a.drop i') i' (b.drop k) k := by
  rw [hx, pr_none (fst_none fun z hz => ?_), hi]
  obtain ⟨t, ht⟩ := List.mem_iff_getElem?.1 hz
  rw [List.getElem?_drop] at ht
  exact hno (k + t) z (by omega) ht
theorem Mat.grown {w w' : World} {B bm n1 m1 : Nat} {gs : List Nat} {T : Nat → Nat → Nat} (h : Mat w B bm gs n1 m1 T) {base sz n : Nat} {e : TypeId} {v : Value} {xs : List Value} (own : w.ownsRow base e sz v n xs) (h1 : e ≠ 87) (h2 : e ≠ 3) (hg : w.grownBy w' v.ownBlock) : Mat w' B bm gs n1 m1 T :=
  ⟨h.len, h.nd, h.nb, h.lo, h.lob, (hg.block bm (lt_of_block h.out) (own_other' own h.out h1).symm).trans h.out, fun i g hi => (hg.block g (lt_of_block (h.row i g hi)) (own_other' own (h.row i g hi) h2).symm).trans (h.row i g hi)⟩
/-- How far the search for the first pair is. -/
def RInv (a b : List Frame) (i k e x y : Nat) : Prop :=
  lcs (a.drop x) (b.drop k) = e ∧ pr (a.drop i) i (b.drop k) k = pr (a.drop x) x (b.drop k) k ∧ ∀ t p z, k ≤ t → t < y → a[x]? = some p → b[t]? = some z → ¬ (al p z = true ∧ lcs (a.drop (x + 1)) (b.drop (t + 1)) + 1 = e)
section
variable {a b : List Frame} {i k e x y : Nat} {p q : Frame}
theorem drop_at {l : List Frame} (h : l[x]? = some p) : l.drop x = p :: l.drop (x + 1) := by
  have hx := (List.getElem?_eq_some_iff.1 h).1
  rw [List.drop_eq_getElem_cons hx]
  congr 1
  rw [List.getElem?_eq_getElem hx] at h
  exact Option.some.inj h
theorem RInv.start (h : lcs (a.drop i) (b.drop k) = e) : RInv a b i k e i k := ⟨h, rfl, fun t p z h1 h2 => by omega⟩
theorem RInv.lt (h : RInv a b i k e x y) (he : 0 < e) : x < a.length ∧ k < b.length := by
  have h1 := lcs_le (a.drop x) (b.drop k)
  rw [h.1, List.length_drop, List.length_drop] at h1
  omega
theorem RInv.right (h : RInv a b i k e x y) (hp : a[x]? = some p) (hq : b[y]? = some q) (hn : ¬ (al p q = true ∧ lcs (a.drop (x + 1)) (b.drop (y + 1)) + 1 = e)) : RInv a b i k e x (y + 1) := by
  refine ⟨h.1, h.2.1, fun t p' z h1 h2 h3 h4 => ?_⟩
  by_cases et : t = y
  · subst et
    rw [hp] at h3; rw [hq] at h4
    cases h3; cases h4
    exact hn
  · exact h.2.2 t p' z h1 (by omega) h3 h4
theorem RInv.down (h : RInv a b i k e x y) (hp : a[x]? = some p) (hy : b.length ≤ y) : RInv a b i k e (x + 1) k := by
  have hd := drop_at hp
  have key := row_fails (x := p) (xs := a.drop (x + 1)) (bs := b.drop k) (i := x) (k := k) fun t z hz => by
    rw [List.getElem?_drop] at hz
    have := (List.getElem?_eq_some_iff.1 hz).1
    have := h.2.2 (k + t) p z (by omega) (by omega) hp hz
    rw [List.drop_drop, ← hd, h.1, show k + (t + 1) = k + t + 1 by omega]
    exact this
  rw [← hd] at key
  exact ⟨key.1.trans h.1, h.2.1.trans key.2, fun t p z h1 h2 => by omega⟩
theorem RInv.hit (h : RInv a b i k e x y) (hk : k ≤ y) (hp : a[x]? = some p) (hq : b[y]? = some q) (ha : al p q = true) (hn : lcs (a.drop (x + 1)) (b.drop (y + 1)) + 1 = e) : pr (a.drop i) i (b.drop k) k = (x, y) :: pr (a.drop (x + 1)) (x + 1) (b.drop (y + 1)) (y + 1) := by
  have hd := drop_at hp
  rw [h.2.1, hd]
  have key := row_hits (x := p) (y := q) (xs := a.drop (x + 1)) (bs := b.drop k) (i := x) (k := k) (d := y - k) (by rw [List.getElem?_drop, show k + (y - k) = y by omega]; exact hq) ha
    (by rw [List.drop_drop, ← hd, h.1, show k + (y - k + 1) = y + 1 by omega]; exact hn) fun t z ht hz => by
      rw [List.getElem?_drop] at hz
      have := h.2.2 (k + t) p z (by omega) (by omega) hp hz
      rw [List.drop_drop, ← hd, h.1, show k + (t + 1) = k + t + 1 by omega]
      exact this
  rw [key, List.drop_drop, show k + (y - k + 1) = y + 1 by omega, show k + (y - k) = y by omega]
end
set_option maxRecDepth 100000 in
set_option maxHeartbeats 2000000 in
theorem alike_any (x y : Frame) (w : World) :
    Calls Tryd.prog 52 #[.agg #[.string x.mod, .string x.fn, .string x.file, .int .i64 x.line, .int .i64 x.addr, .bool x.own], .agg #[.string y.mod, .string y.fn, .string y.file, .int .i64 y.line, .int .i64 y.addr, .bool y.own]] w fun e w' => e = .returned (.bool (al x y)) ∧ Below w.heap.size w w' := by
  have b0 := bytes_beq x.mod y.mod
  have b1 := bytes_beq x.fn y.fn
  have b2 := bytes_beq x.file y.file
  by_cases h0 : x.mod = y.mod
  · rw [decide_eq_true h0] at b0
    by_cases h1 : x.fn = y.fn
    · rw [decide_eq_true h1] at b1
      by_cases h2 : x.file = y.file
      · rw [decide_eq_true h2] at b2
        have E := hide (show al x y = true by rw [al, decide_eq_true h0, decide_eq_true h1, decide_eq_true h2]; rfl)
        clear h0 h1 h2
        go_enter Tryd.func52, Tryd.ntmps52
        go_wp2_with (fail)
        go_ret
        exact ⟨by rw [E.out]; rfl, by go_grown⟩
      · rw [decide_eq_false h2] at b2
        have E := hide (show al x y = false by rw [al, decide_eq_true h0, decide_eq_true h1, decide_eq_false h2]; rfl)
        clear h0 h1 h2
        go_enter Tryd.func52, Tryd.ntmps52
        go_wp2_with (fail)
        go_ret
        exact ⟨by rw [E.out]; rfl, by go_grown⟩
    · rw [decide_eq_false h1] at b1
      have E := hide (show al x y = false by rw [al, decide_eq_true h0, decide_eq_false h1]; rfl)
      clear h0 h1 b2
      go_enter Tryd.func52, Tryd.ntmps52
      go_wp2_with (fail)
      go_ret
      exact ⟨by rw [E.out]; rfl, by go_grown⟩
  · rw [decide_eq_false h0] at b0
    have E := hide (show al x y = false by rw [al, decide_eq_false h0]; rfl)
    clear h0 b1 b2
    go_enter Tryd.func52, Tryd.ntmps52
    go_wp2_with (fail)
    go_ret
    exact ⟨by rw [E.out]; rfl, by go_grown⟩
set_option maxRecDepth 1000000 in
set_option maxHeartbeats 16000000 in
theorem aligned_any (A : Option Addr) (n c : Nat) (A' : Option Addr) (m c' : Nat) (a b : List Frame) (w : World) (hn : n ≤ 200) (hm : m ≤ 200) (hl : Sl w w.heap.size Frame.cs 6 A n a) (hl' : Sl w w.heap.size Frame.cs 6 A' m b) :
    Calls Tryd.prog 34 #[.slice A n c, .slice A' m c'] w (GivesPairs (fun v => v) (pairsL a b) w) := by
  have HL := hide hl.len
  have HL' := hide hl'.len
  obtain ⟨i1, hi1, iz10, iz11, iz12⟩ := info_parts info_ints
  obtain ⟨i2, hi2, iz20, iz21, iz22⟩ := info_parts info_int
  obtain ⟨n1, hn1⟩ : ∃ n1 : Nat, n1 = n + 1 := ⟨_, rfl⟩
  obtain ⟨m1, hm1⟩ : ∃ m1 : Nat, m1 = m + 1 := ⟨_, rfl⟩
  have e1 : (n : Int) + 1 = (n1 : Int) := by omega
  have e2 : (m : Int) + 1 = (m1 : Int) := by omega
  have hn1b : n1 ≤ 201 := by omega
  have hm1b : m1 ≤ 201 := by omega
  have HN1 := hide hn1
  have HM1 := hide hm1
  clear hn1 hm1
  go_enter Tryd.func34, Tryd.ntmps34
  go_wp2_with (at_make; refine wpList_make_full _ (by rfl) _ _ 86 (by rfl) w.heap.size 87 i1 (.slice none 0 0) 1 Tryd.underlying86 hi1 iz10 iz11 .i64 .i64 _ _ n1 (by rfl) (by rfl) (by omega) (by omega) (by rw [iz12]; omega) (by unfold maxLen; omega) (Nat.le_refl _) ?_; intro w1 hown1 hg1; rw [made_nil] at hown1; have hblk1 := (own_block hown1).1; have hB1 : Below w.heap.size w w1 := Below.grown (Below.refl _ _) hg1 (Nat.le_refl _) (fun k hk => by cases hk); have HM0 := hide (MatP.start (m1 := m1) (Nat.le_refl _) hblk1); clear hown1 hg1 hblk1)
  go_loopw [19] (fun i wr => ∃ (k : Nat) (gs : List Nat), k ≤ n1 ∧ i = .int .i64 k ∧ gs.length = k ∧ MatP wr w.heap.size w.heap.size gs n1 m1 ∧ Below w.heap.size w wr) (fun i _ => n1 - (intOf i).toNat)
  case atStart => exact ⟨0, [], Nat.zero_le _, rfl, rfl, HM0.out, hB1⟩
  case round =>
    obtain ⟨k, gs, hk, rfl, hgs, hmat, hB⟩ := hrel
    have HMAT := hide hmat
    have HGS := hide hgs
    have hz := hB.size
    by_cases hlt : k < n1
    · have d0 : wr.cell? ⟨w.heap.size, k, none⟩ = some (.slice none 0 0) := by have := hmat.cell (by rw [hgs]; exact hlt); rw [hgs] at this; exact this
      have hblt := hmat.lt
      clear hmat hgs
      go_wp2_with (at_make; refine wpList_make_full _ (by rfl) _ _ 87 (by rfl) w.heap.size 3 i2 (.int .i64 0) 1 Tryd.underlying87 hi2 iz20 iz21 .i64 .i64 _ _ m1 (by rfl) (by rfl) (by omega) (by omega) (by rw [iz22]; omega) (by unfold maxLen; omega) hz ?_; intro w2 hown2 hg2; rw [made_zero] at hown2; have hblk2 := (own_block hown2).1; have hw2 : Below wr.heap.size wr w2 := Below.grown (Below.refl _ _) hg2 (Nat.le_refl _) (fun k hk => by cases hk); have hmat2 := HMAT.out.below hw2; have d2 : w2.cell? ⟨w.heap.size, k, none⟩ = some (.slice none 0 0) := (hw2.cell (p := ⟨w.heap.size, k, none⟩) hblt).trans d0; have f2 := hmat2.free k; have HS := hide (HMAT.out.step (by rw [HGS.out]; exact hlt) (Nat.le_refl _) hw2 hblk2 hz); have HB2 := hide (hB.trans (hw2.mono hz)); clear hown2 hg2 hblk2 hw2 hmat2 d0)
      go_roundw
      case rel => exact ⟨k + 1, gs ++ [wr.heap.size], by omega, by go_num, by rw [List.length_append, HGS.out]; rfl, by have := HS.out; rw [HGS.out] at this; exact this, below_set HB2.out (Nat.le_refl _) _⟩
      case measure => simp [intOf]; omega
    · have HMT := hide (HMAT.out.done (by have := HGS.out; omega))
      have hgsl : gs.length = n1 := by rw [HGS.out]; omega
      clear hmat hgs
      go_wp2_with (fail)
      clear hlt hk
      obtain ⟨wo, rfl⟩ : ∃ wo : World, wo = wr := ⟨_, rfl⟩
      go_loopw [7] (fun si wr => ∃ (i : Nat) (iz : Int) (T : Nat → Nat → Nat), i ≤ n ∧ iz = (i : Int) - 1 ∧ si = .int .i64 iz ∧ Mat wr w.heap.size w.heap.size gs n1 m1 T ∧ (∀ r s, i ≤ r → r ≤ n → s ≤ m → T r s = lcs (a.drop r) (b.drop s)) ∧ (∀ r s, r < i → T r s = 0) ∧ Below w.heap.size w wr) (fun si _ => (intOf si + 1).toNat)
      case atStart => exact ⟨n, (n : Int) - 1, _, Nat.le_refl _, rfl, rfl, HMT.out, fun r s h1 h2 h3 => by rw [show a.drop r = [] from List.drop_eq_nil_of_le (by have := HL.out; omega)]; rfl, fun _ _ _ => rfl, hB⟩
      case round =>
        obtain ⟨i, iz, T, hi, hiz, rfl, hmt, hdone, hzero, hB2⟩ := hrel
        have HMT2 := hide hmt
        have HDONE := hide hdone
        have HZERO := hide hzero
        clear hmt hdone hzero
        cases i with
        | zero =>
          have hneg : iz < 0 := by omega
          have hneg' : decide (0 ≤ iz) = false := by simp; omega
          clear hiz
          have TAB := hide (fun r s (h2 : r ≤ n) (h3 : s ≤ m) => HDONE.out r s (Nat.zero_le _) h2 h3)
          have HMX := hide HMT2.out
          clear HMT2 HDONE HZERO HMT
          go_wp2_with (fail)
          clear hneg hneg'
          obtain ⟨i3, hi3, iz30, iz31, iz32⟩ := info_parts info_pair
          obtain ⟨wq, rfl⟩ : ∃ wq : World, wq = wr := ⟨_, rfl⟩
          go_loopw [9, 10, 102] (fun v kz iz wr => ∃ (i k N : Nat) (out : List (Nat × Nat)), i ≤ n ∧ k ≤ m ∧ kz = .int .i64 k ∧ iz = .int .i64 i ∧ wr.ownsRow w.heap.size 37 2 v N (out.flatMap pcs) ∧ out.length = N ∧ N ≤ i ∧ out ++ pr (a.drop i) i (b.drop k) k = pairsL a b ∧ Mat wr w.heap.size w.heap.size gs n1 m1 T ∧ Below w.heap.size w wr) (fun _ _ iz _ => n - (intOf iz).toNat)
          case atStart => exact ⟨0, 0, 0, [], Nat.zero_le _, Nat.zero_le _, rfl, rfl, World.ownsRow_nil _ _ _ _, rfl, Nat.le_refl _, rfl, HMX.out, hB2⟩
          case round =>
            obtain ⟨i, k, N, out, hi, hk, rfl, rfl, hown, hN, hNi, hinv, hmx, hB⟩ := hrel
            have HOWN := hide hown
            have HN := hide hN
            have HINV := hide hinv
            have HMR := hide hmx
            clear hown hN hinv hmx
            by_cases hlt : i < n
            · obtain ⟨i', hi'⟩ : ∃ i' : Nat, i' = i + 1 := ⟨_, rfl⟩
              have ei : (i : Int) + 1 = (i' : Int) := by omega
              have hin1 : i < n1 := by omega
              have hi'n : i' < n1 := by have := HN1.out; omega
              obtain ⟨gi, hgi⟩ := HMR.out.get hin1
              obtain ⟨gi', hgi'⟩ := HMR.out.get hi'n
              have HGI := hide hgi
              have HGI' := hide hgi'
              obtain ⟨ba, oa, x, hA, hba, hx, hcx⟩ := hl.at_ hlt
              subst hA
              have HXC := hide hcx
              have HI' := hide hi'
              have HDX := hide (show a.drop i = x :: a.drop i' by rw [List.drop_eq_getElem_cons (by rw [HL.out]; exact hlt), hi']; congr 1; rw [List.getElem?_eq_getElem (by rw [HL.out]; exact hlt)] at hx; exact Option.some.inj hx)
              clear hx hcx hgi hgi' hi'
              go_wp2_with (fail)
              obtain ⟨wp, rfl⟩ : ∃ wp : World, wp = wr := ⟨_, rfl⟩
              go_loopw [9, 10, 12] (fun v' kz jz wr => ∃ j : Nat, v' = u9 ∧ kz = .int .i64 k ∧ k ≤ j ∧ j ≤ m ∧ jz = .int .i64 j ∧ (∀ t z, k ≤ t → t < j → b[t]? = some z → al x z = false) ∧ wr.ownsRow w.heap.size 37 2 v' N (out.flatMap pcs) ∧ Mat wr w.heap.size w.heap.size gs n1 m1 T ∧ Below w.heap.size w wr) (fun _ _ jz _ => m - (intOf jz).toNat)
              case atStart => exact ⟨k, rfl, rfl, Nat.le_refl _, hk, rfl, fun t z h1 h2 => by omega, HOWN.out, HMR.out, hB⟩
              case round =>
                obtain ⟨j, rfl, rfl, hkj, hj, rfl, hno, hown, hmx, hB3⟩ := hrel
                have HOWN3 := hide hown
                have HMR3 := hide hmx
                have HNO := hide hno
                clear hown hmx hno
                have hz3 := hB3.size
                by_cases hjm : j < m
                · obtain ⟨j', hj'⟩ : ∃ j' : Nat, j' = j + 1 := ⟨_, rfl⟩
                  have ej : (j : Int) + 1 = (j' : Int) := by omega
                  obtain ⟨bb, ob, y, hA', hbb, hy, hcy⟩ := hl'.at_ hjm
                  subst hA'
                  have HY := hide hy
                  have HCY := hide hcy
                  have HJ' := hide hj'
                  clear hy hcy hj'
                  have hrf : Below wr.heap.size wr wr := Below.refl _ _
                  obtain ⟨I1, F1, hi1, hC1, hFB1, hJ1⟩ := fam [] wr wr (Cells.nil _) (by assumption); have hJ1 := hide hJ1; haveI : Nonempty I1 := ⟨hi1.choose⟩
                  have HF := hide hFB1
                  have HFW := hide (fun i => hB3.trans ((HF.out i).mono hz3))
                  have x0 := fun z => ((HFW.out z).cell (p := ⟨ba, oa + i * 6, none⟩) hba).trans (by simpa using HXC.out 0 _ rfl : _ = some (Value.string x.mod))
                  have x1 := fun z => ((HFW.out z).cell (p := ⟨ba, oa + i * 6 + 1, none⟩) hba).trans (HXC.out 1 _ rfl : _ = some (Value.string x.fn))
                  have x2 := fun z => ((HFW.out z).cell (p := ⟨ba, oa + i * 6 + 2, none⟩) hba).trans (HXC.out 2 _ rfl : _ = some (Value.string x.file))
                  have x3 := fun z => ((HFW.out z).cell (p := ⟨ba, oa + i * 6 + 3, none⟩) hba).trans (HXC.out 3 _ rfl : _ = some (Value.int .i64 x.line))
                  have x4 := fun z => ((HFW.out z).cell (p := ⟨ba, oa + i * 6 + 4, none⟩) hba).trans (HXC.out 4 _ rfl : _ = some (Value.int .i64 x.addr))
                  have x5 := fun z => ((HFW.out z).cell (p := ⟨ba, oa + i * 6 + 5, none⟩) hba).trans (HXC.out 5 _ rfl : _ = some (Value.bool x.own))
                  have y0 := fun z => ((HFW.out z).cell (p := ⟨bb, ob + j * 6, none⟩) hbb).trans (by simpa using HCY.out 0 _ rfl : _ = some (Value.string y.mod))
                  have y1 := fun z => ((HFW.out z).cell (p := ⟨bb, ob + j * 6 + 1, none⟩) hbb).trans (HCY.out 1 _ rfl : _ = some (Value.string y.fn))
                  have y2 := fun z => ((HFW.out z).cell (p := ⟨bb, ob + j * 6 + 2, none⟩) hbb).trans (HCY.out 2 _ rfl : _ = some (Value.string y.file))
                  have y3 := fun z => ((HFW.out z).cell (p := ⟨bb, ob + j * 6 + 3, none⟩) hbb).trans (HCY.out 3 _ rfl : _ = some (Value.int .i64 y.line))
                  have y4 := fun z => ((HFW.out z).cell (p := ⟨bb, ob + j * 6 + 4, none⟩) hbb).trans (HCY.out 4 _ rfl : _ = some (Value.int .i64 y.addr))
                  have y5 := fun z => ((HFW.out z).cell (p := ⟨bb, ob + j * 6 + 5, none⟩) hbb).trans (HCY.out 5 _ rfl : _ = some (Value.bool y.own))
                  have j1 : (i : Int) < (n : Int) := by omega
                  have j2 : (j : Int) < (m : Int) := by omega
                  have j3 : (0 : Int) ≤ (i : Int) := by omega
                  have j4 : (0 : Int) ≤ (j : Int) := by omega
                  clear hC1 hFB1
                  have CAL := hide (fun W => alike_any x y W)
                  cases hal : al x y
                  · rw [hal] at CAL
                    have HAL := hide hal
                    clear hal
                    go_wp2_with (fail)
                    refine wp_region_fam F1 hi1 (by kernel_rfl) (by kernel_rfl) ?_; (repeat (go_big_quiet_step ((go_at_call 52; refine (CAL.out _).mono ?_; rintro r w' ⟨rfl, hw'⟩; exact ⟨rfl, hJ1.out _ _ hw'⟩)))); refine wpQuiet_nil ?_; rintro _ ⟨i1, rfl⟩
                    have HMR5 := hide (HMR3.out.below (HF.out i1))
                    have HOWN5 := hide (own_below HOWN3.out (HF.out i1))
                    have hB5 := HFW.out i1
                    go_wp2_with (fail)
                    go_roundw
                    case rel => exact ⟨j', rfl, rfl, by have := HJ'.out; omega, by have := HJ'.out; omega, by go_num, fun t z h1 h2 h3 => (by (by_cases e : t = j); (subst e; rw [HY.out] at h3; cases h3; exact HAL.out); exact HNO.out t z h1 (by have := HJ'.out; omega) h3), HOWN5.out, HMR5.out, hB5⟩
                    case measure => have := HJ'.out; simp [intOf]; try omega
                  · rw [hal] at CAL
                    obtain ⟨d, hd⟩ : ∃ d, T i' j' = d := ⟨_, rfl⟩
                    obtain ⟨e, he⟩ : ∃ e, T i k = e := ⟨_, rfl⟩
                    have hdl := (TAB.out i' j' (by have := HI'.out; omega) (by have := HJ'.out; omega)).symm.trans hd
                    have hel := (TAB.out i k (by omega) (by omega)).symm.trans he
                    have bd := (lcs_le (a.drop i') (b.drop j')).1
                    rw [hdl, List.length_drop, HL.out] at bd
                    obtain ⟨d1, hd1⟩ : ∃ d1 : Nat, d1 = d + 1 := ⟨_, rfl⟩
                    have ed : (d : Int) + 1 = (d1 : Int) := by omega
                    have i6 : IntKind.i64.wrap ((i : Int) + 1) = (i' : Int) := by rw [ei]; exact IntWalk.i64_in _ (by have := HI'.out; omega)
                    have i7 : IntKind.i64.wrap (i' : Int) = (i' : Int) := IntWalk.i64_in _ (by have := HI'.out; omega)
                    have i8 : IntKind.i64.wrap ((j : Int) + 1) = (j' : Int) := by rw [ej]; exact IntWalk.i64_in _ (by have := HJ'.out; omega)
                    have i9 : IntKind.i64.wrap (j' : Int) = (j' : Int) := IntWalk.i64_in _ (by have := HJ'.out; omega)
                    have i10 : IntKind.i64.wrap ((d : Int) + 1) = (d1 : Int) := by rw [ed]; exact IntWalk.i64_in _ (by omega)
                    have i11 : IntKind.i64.wrap (d1 : Int) = (d1 : Int) := IntWalk.i64_in _ (by omega)
                    have hkm1 : k < m1 := by have := HM1.out; omega
                    have hjm1 : j' < m1 := by have := HM1.out; have := HJ'.out; omega
                    have q2 : (i : Int) < (n1 : Int) := by omega
                    have q3 : (i' : Int) < (n1 : Int) := by omega
                    have q4 : (k : Int) < (m1 : Int) := by omega
                    have q5 : (j' : Int) < (m1 : Int) := by omega
                    have HHD := hide (And.intro hd he)
                    have HFST := hide (fst_at hkj HY.out hal HNO.out)
                    have HC1 := hide (show d1 = e → pr (a.drop i) i (b.drop k) k = (i, j) :: pr (a.drop i') i' (b.drop j') j' from fun h => step_take HDX.out HI'.out HJ'.out hkj HFST.out (by rw [hdl, hel, ← h, hd1]))
                    have HC2 := hide (show d1 ≠ e → pr (a.drop i) i (b.drop k) k = pr (a.drop i') i' (b.drop k) k from fun h => step_skip HDX.out HI'.out HJ'.out hkj HFST.out (by rw [hdl, hel, ← hd1]; exact h))
                    clear hal hd he hdl hel bd hd1
                    go_wp2_with (fail)
                    refine wp_region_fam F1 hi1 (by kernel_rfl) (by kernel_rfl) ?_; (repeat (go_big_quiet_step ((go_at_call 52; refine (CAL.out _).mono ?_; rintro r w' ⟨rfl, hw'⟩; exact ⟨rfl, hJ1.out _ _ hw'⟩)))); refine wpQuiet_nil ?_; rintro _ ⟨i1, rfl⟩
                    have HMR5 := hide (HMR3.out.below (HF.out i1))
                    have HOWN5 := hide (own_below HOWN3.out (HF.out i1))
                    have hB5 := HFW.out i1
                    clear x0 x1 x2 x3 x4 x5 y0 y1 y2 y3 y4 y5
                    generalize F1 i1 = w5 at HMR5 HOWN5 hB5 ⊢
                    have hz5 := hB5.size
                    have hrf5 : Below w5.heap.size w5 w5 := Below.refl _ _
                    obtain ⟨I2, F2, hi2, hC2, hFB2, hJ2⟩ := fam [] w5 w5 (Cells.nil _) (by assumption); have hJ2 := hide hJ2; haveI : Nonempty I2 := ⟨hi2.choose⟩
                    have HF2 := hide hFB2
                    have k0 := fun z => (HMR5.out.below (HF2.out z)).head HGI.out
                    have k1 := fun z => (HMR5.out.below (HF2.out z)).head HGI'.out
                    have k2 := fun z => (HMR5.out.below (HF2.out z)).cell HGI.out hkm1
                    have k3 := fun z => (HMR5.out.below (HF2.out z)).cell HGI'.out hjm1
                    simp only [HHD.out.2] at k2
                    simp only [HHD.out.1] at k3
                    clear hC2 hFB2
                    by_cases hde : d1 = e
                    · have hde1 : ((d1 : Int) == (e : Int)) = true := by simp; omega
                      have hde2 : decide ((d1 : Int) = (e : Int)) = true := by simp; omega
                      have HPR := hide (HC1.out hde)
                      clear hde HC1 HC2
                      go_wp2_with (fail)
                      refine wp_region_fam F2 hi2 (by kernel_rfl) (by kernel_rfl) ?_; (repeat (go_big_quiet_step (fail))); refine wpQuiet_nil ?_; rintro _ ⟨i2, rfl⟩
                      clear k0 k1 k2 k3
                      have HMR6 := hide (HMR5.out.below (HF2.out i2))
                      have HOWN6 := hide (own_below HOWN5.out (HF2.out i2))
                      have hB6 := hB5.trans ((HF2.out i2).mono hz5)
                      clear HF2
                      generalize F2 i2 = w6 at HMR6 HOWN6 hB6 ⊢
                      have hz6 := hB6.size
                      go_wp2_with (at_builtin; refine wpList_append_own _ rfl (.tmp 139) (.tmp 143) 32 rfl w.heap.size 37 i3 (.agg #[.int .i64 0, .int .i64 0]) 2 16 Tryd.underlying32 hi3 iz30 iz31 iz32 rfl (by decide) _ N _ (by rfl) (HOWN6.out.alloc _) ⟨w6.heap.size, 0, none⟩ 1 1 [.int .i64 i, .int .i64 j] (by rfl) rfl (cells_at _ [.int .i64 i, .int .i64 j] _ _ rfl) (by intro u hu; simp at hu; rcases hu with rfl | rfl <;> rfl) (by unfold maxLen; omega) (by omega) (by simp; omega) ?_; intro v' w7 hown7 hg7 _; have B7 : Below w.heap.size w w7 := Below.grown (hB6.alloc hz6 _) hg7 (by simp; omega) (fun j hj => (World.ownsRow.lt HOWN6.out j hj).1); have HMR7 := hide ((HMR6.out.below ((Below.refl _ _).alloc (Nat.le_refl _) _)).grown (HOWN6.out.alloc _) (by decide) (by decide) hg7); have HOWN7 := hide hown7; clear hown7 hg7)
                      go_roundw
                      case rel => exact ⟨i', j', N + 1, out ++ [(i, j)], by have := HI'.out; omega, by have := HJ'.out; omega, by go_num, by go_num, by rw [List.flatMap_append]; exact HOWN7.out, by rw [List.length_append, HN.out]; rfl, by have := HI'.out; omega, by rw [← HINV.out, HPR.out, List.append_assoc]; rfl, HMR7.out, B7⟩
                      case measure => have := HI'.out; simp [intOf]; try omega
                    · have hde1 : ((d1 : Int) == (e : Int)) = false := by simp; omega
                      have hde2 : decide ((d1 : Int) = (e : Int)) = false := by simp; omega
                      have HPR := hide (HC2.out hde)
                      clear hde HC1 HC2
                      go_wp2_with (fail)
                      refine wp_region_fam F2 hi2 (by kernel_rfl) (by kernel_rfl) ?_; (repeat (go_big_quiet_step (fail))); refine wpQuiet_nil ?_; rintro _ ⟨i2, rfl⟩
                      clear k0 k1 k2 k3
                      have HMR6 := hide (HMR5.out.below (HF2.out i2))
                      have HOWN6 := hide (own_below HOWN5.out (HF2.out i2))
                      have hB6 := hB5.trans ((HF2.out i2).mono hz5)
                      clear HF2
                      generalize F2 i2 = w6 at HMR6 HOWN6 hB6 ⊢
                      have hz6 := hB6.size
                      go_wp2_with (fail)
                      go_roundw
                      case rel => exact ⟨i', k, N, out, by have := HI'.out; omega, by omega, rfl, by go_num, HOWN6.out, HN.out, by have := HI'.out; omega, by rw [← HINV.out, HPR.out], HMR6.out, hB6⟩
                      case measure => have := HI'.out; simp [intOf]; try omega
                · have HPR := hide (step_none (i := i) HDX.out HI'.out (show ∀ t z, k ≤ t → b[t]? = some z → al x z = false from fun t z h1 h2 => HNO.out t z h1 (by have := (List.getElem?_eq_some_iff.1 h2).1; have := HL'.out; omega) h2))
                  go_wp2_with (fail)
                  go_roundw
                  case rel => exact ⟨i', k, N, out, by have := HI'.out; omega, by omega, rfl, by go_num, HOWN3.out, HN.out, by have := HI'.out; omega, by rw [← HINV.out, HPR.out], HMR3.out, hB3⟩
                  case measure => have := HI'.out; simp [intOf]; try omega
            · have HE := hide (show out = pairsL a b by have := HINV.out; rw [show a.drop i = [] from List.drop_eq_nil_of_le (by have := HL.out; omega), pr, List.append_nil] at this; exact this)
              obtain ⟨A3, c3, rfl, hsl3, _, _⟩ := sl_of_own (f := pcs) (l := out) (fun _ => rfl) HN.out HOWN.out
              have HSL3 := hide hsl3
              clear hsl3 HOWN
              go_wp2_with (fail)
              go_ret
              exact ⟨A3, N, c3, rfl, by rw [← HE.out]; exact HSL3.out, hB⟩
        | succ r =>
          obtain rfl : iz = (r : Int) := by omega
          have hrn : r < n := by omega
          obtain ⟨r1, hr1⟩ : ∃ r1 : Nat, r1 = r + 1 := ⟨_, rfl⟩
          have er : (r : Int) + 1 = (r1 : Int) := by omega
          have hr1n : r1 < n1 := by have := HN1.out; omega
          have hrn1 : r < n1 := by omega
          obtain ⟨gr, hgr⟩ := HMT2.out.get hrn1
          obtain ⟨gr1, hgr1⟩ := HMT2.out.get hr1n
          obtain ⟨ba, oa, x, hA, hba, hx, hcx⟩ := hl.at_ hrn
          subst hA
          have HX := hide hx
          have HXC := hide hcx
          have HGR := hide hgr
          have HGR1 := hide hgr1
          have HR1 := hide hr1
          have HDX := hide (show a.drop r = x :: a.drop r1 by rw [List.drop_eq_getElem_cons (by rw [HL.out]; exact hrn), hr1]; congr 1; rw [List.getElem?_eq_getElem (by rw [HL.out]; exact hrn)] at hx; exact Option.some.inj hx)
          clear hiz hx hcx hgr hgr1 hr1
          go_wp2_with (fail)
          obtain ⟨wp, rfl⟩ : ∃ wp : World, wp = wr := ⟨_, rfl⟩
          go_loopw [8] (fun sj wr => ∃ (j : Nat) (jz : Int) (T : Nat → Nat → Nat), j ≤ m ∧ jz = (j : Int) - 1 ∧ sj = .int .i64 jz ∧ Mat wr w.heap.size w.heap.size gs n1 m1 T ∧ (∀ p s, r1 ≤ p → p ≤ n → s ≤ m → T p s = lcs (a.drop p) (b.drop s)) ∧ (∀ p s, p < r → T p s = 0) ∧ (∀ s, j ≤ s → s ≤ m → T r s = lcs (a.drop r) (b.drop s)) ∧ Below w.heap.size w wr) (fun sj _ => (intOf sj + 1).toNat)
          case atStart => exact ⟨m, (m : Int) - 1, T, Nat.le_refl _, rfl, rfl, HMT2.out, fun p s h1 h2 h3 => HDONE.out p s (by have := HR1.out; omega) h2 h3, fun p s h => HZERO.out p s (by omega), fun s h1 h2 => by rw [HZERO.out r s (by omega), show b.drop s = [] from List.drop_eq_nil_of_le (by have := HL'.out; omega), lcs_nil], hB2⟩
          case round =>
            obtain ⟨j, jz, T, hj, hjz, rfl, hmt, hdone, hzero, hrow, hB3⟩ := hrel
            have HMT3 := hide hmt
            have HDONE3 := hide hdone
            have HZERO3 := hide hzero
            have HROW := hide hrow
            have hz3 := hB3.size
            clear hmt hdone hzero hrow
            cases j with
            | zero =>
              have hneg : jz < 0 := by omega
              have hneg' : decide (0 ≤ jz) = false := by simp; omega
              clear hjz
              go_wp2_with (fail)
              go_roundw
              case rel => exact ⟨r, (r : Int) - 1, T, by omega, rfl, rfl, HMT3.out, fun p s h1 h2 h3 => by (by_cases e : p = r); (subst e; exact HROW.out s (Nat.zero_le _) h3); exact HDONE3.out p s (by have := HR1.out; omega) h2 h3, fun p s h => HZERO3.out p s h, hB3⟩
              case measure => simp [intOf]; try omega
            | succ s =>
              obtain rfl : jz = (s : Int) := by omega
              have hsm : s < m := by omega
              obtain ⟨s1, hs1⟩ : ∃ s1 : Nat, s1 = s + 1 := ⟨_, rfl⟩
              have es : (s : Int) + 1 = (s1 : Int) := by omega
              obtain ⟨bb, ob, y, hA', hbb, hy, hcy⟩ := hl'.at_ hsm
              subst hA'
              have HDY := hide (show b.drop s = y :: b.drop s1 by rw [List.drop_eq_getElem_cons (by rw [HL'.out]; exact hsm), hs1]; congr 1; rw [List.getElem?_eq_getElem (by rw [HL'.out]; exact hsm)] at hy; exact Option.some.inj hy)
              obtain ⟨p, hp⟩ : ∃ p, T r1 s = p := ⟨_, rfl⟩
              obtain ⟨q, hq⟩ : ∃ q, T r s1 = q := ⟨_, rfl⟩
              obtain ⟨d, hd⟩ : ∃ d, T r1 s1 = d := ⟨_, rfl⟩
              have hpl := (HDONE3.out r1 s (Nat.le_refl _) (by have := HR1.out; omega) (by omega)).symm.trans hp
              have hql := (HROW.out s1 (by omega) (by omega)).symm.trans hq
              have hdl := (HDONE3.out r1 s1 (Nat.le_refl _) (by have := HR1.out; omega) (by omega)).symm.trans hd
              have bp := (lcs_le (a.drop r1) (b.drop s)).1
              have bq := (lcs_le (a.drop r) (b.drop s1)).1
              have bd := (lcs_le (a.drop r1) (b.drop s1)).1
              rw [hpl, List.length_drop, HL.out] at bp
              rw [hql, List.length_drop, HL.out] at bq
              rw [hdl, List.length_drop, HL.out] at bd
              have hpb : p ≤ 200 := by omega
              have hqb : q ≤ 200 := by omega
              have hdb : d ≤ 200 := by omega
              have HLCS := hide (show lcs (a.drop r) (b.drop s) = if al x y then max (max p q) (d + 1) else max p q by rw [HDX.out, HDY.out, lcs_cons, ← HDX.out, ← HDY.out, hpl, hql, hdl])
              have hs1m : s1 < m1 := by have := HM1.out; omega
              have hsm1 : s < m1 := by omega
              have k0 := HMT3.out.head HGR.out
              have k1 := HMT3.out.head HGR1.out
              have k2 := HMT3.out.cell HGR1.out hsm1
              have k3 := HMT3.out.cell HGR.out hs1m
              have k4 := HMT3.out.cell HGR.out hsm1
              have k5 := HMT3.out.free HGR.out s
              rw [hp] at k2
              rw [hq] at k3
              generalize T r s = v at k4
              obtain ⟨M, hM⟩ : ∃ M, max p q = M := ⟨_, rfl⟩
              have hMax : max (p : Int) (q : Int) = (M : Int) := by omega
              have HHP := hide (And.intro hp (And.intro hq hd))
              have HHM := hide hM
              have HCY := hide hcy
              have HS1 := hide hs1
              have i1 : (0 : Int) ≤ (r : Int) := by omega
              have i2 : (r : Int) < (n1 : Int) := by omega
              have i3 : (r1 : Int) < (n1 : Int) := by omega
              have i4 : (s : Int) < (m1 : Int) := by omega
              have i5 : (s1 : Int) < (m1 : Int) := by omega
              have i6 : IntKind.i64.wrap ((r : Int) + 1) = (r1 : Int) := by rw [er]; exact IntWalk.i64_in _ (by omega)
              have i7 : IntKind.i64.wrap (r1 : Int) = (r1 : Int) := IntWalk.i64_in _ (by omega)
              have i8 : IntKind.i64.wrap ((s : Int) + 1) = (s1 : Int) := by rw [es]; exact IntWalk.i64_in _ (by omega)
              have i9 : IntKind.i64.wrap (s1 : Int) = (s1 : Int) := IntWalk.i64_in _ (by omega)
              clear hp hq hd hpl hql hdl bp bq bd hM hcy hy hs1 hjz
              go_wp2_with (fail)
              go_still_tail 23, (by kernel_rfl)
              change wpList _ _ _ _ _ wr.drew
              go_wp2_with (fail)
              have HM4 := hide ((HMT3.out.set HGR.out M (j := s)).below ((Below.refl _ _).drew))
              have hB4 : Below w.heap.size w (wr.setCell ⟨gr, s, none⟩ (.int .i64 (M : Nat))).drew := (below_set hB3 (HMT3.out.ge HGR.out) _).drew
              have hz4 := hB4.size
              generalize (wr.setCell ⟨gr, s, none⟩ (.int .i64 (M : Nat))).drew = w3 at HM4 hB4 hz4 ⊢
              clear k0 k1 k2 k3 k4 k5
              have hrf : Below w3.heap.size w3 w3 := Below.refl _ _
              obtain ⟨I1, F1, hi1, hC1, hFB1, hJ1⟩ := fam [] w3 w3 (Cells.nil _) (by assumption); have hJ1 := hide hJ1; haveI : Nonempty I1 := ⟨hi1.choose⟩
              have HF := hide hFB1
              have HFW := hide (fun i => hB4.trans ((HF.out i).mono hz4))
              have x0 := fun i => ((HFW.out i).cell (p := ⟨ba, oa + r * 6, none⟩) hba).trans (by simpa using HXC.out 0 _ rfl : _ = some (Value.string x.mod))
              have x1 := fun i => ((HFW.out i).cell (p := ⟨ba, oa + r * 6 + 1, none⟩) hba).trans (HXC.out 1 _ rfl : _ = some (Value.string x.fn))
              have x2 := fun i => ((HFW.out i).cell (p := ⟨ba, oa + r * 6 + 2, none⟩) hba).trans (HXC.out 2 _ rfl : _ = some (Value.string x.file))
              have x3 := fun i => ((HFW.out i).cell (p := ⟨ba, oa + r * 6 + 3, none⟩) hba).trans (HXC.out 3 _ rfl : _ = some (Value.int .i64 x.line))
              have x4 := fun i => ((HFW.out i).cell (p := ⟨ba, oa + r * 6 + 4, none⟩) hba).trans (HXC.out 4 _ rfl : _ = some (Value.int .i64 x.addr))
              have x5 := fun i => ((HFW.out i).cell (p := ⟨ba, oa + r * 6 + 5, none⟩) hba).trans (HXC.out 5 _ rfl : _ = some (Value.bool x.own))
              have y0 := fun i => ((HFW.out i).cell (p := ⟨bb, ob + s * 6, none⟩) hbb).trans (by simpa using HCY.out 0 _ rfl : _ = some (Value.string y.mod))
              have y1 := fun i => ((HFW.out i).cell (p := ⟨bb, ob + s * 6 + 1, none⟩) hbb).trans (HCY.out 1 _ rfl : _ = some (Value.string y.fn))
              have y2 := fun i => ((HFW.out i).cell (p := ⟨bb, ob + s * 6 + 2, none⟩) hbb).trans (HCY.out 2 _ rfl : _ = some (Value.string y.file))
              have y3 := fun i => ((HFW.out i).cell (p := ⟨bb, ob + s * 6 + 3, none⟩) hbb).trans (HCY.out 3 _ rfl : _ = some (Value.int .i64 y.line))
              have y4 := fun i => ((HFW.out i).cell (p := ⟨bb, ob + s * 6 + 4, none⟩) hbb).trans (HCY.out 4 _ rfl : _ = some (Value.int .i64 y.addr))
              have y5 := fun i => ((HFW.out i).cell (p := ⟨bb, ob + s * 6 + 5, none⟩) hbb).trans (HCY.out 5 _ rfl : _ = some (Value.bool y.own))
              have j1 : (r : Int) < (n : Int) := by omega
              have j2 : (s : Int) < (m : Int) := by omega
              have j3 : (0 : Int) ≤ (s : Int) := by omega
              clear hC1 hFB1
              have CAL := hide (fun W => alike_any x y W)
              cases hal : al x y
              · rw [hal] at CAL
                have HV := hide (show lcs (a.drop r) (b.drop s) = M by rw [HLCS.out, hal, HHM.out]; rfl)
                clear hal
                refine wp_region_fam F1 hi1 (by kernel_rfl) (by kernel_rfl) ?_; (repeat (go_big_quiet_step ((go_at_call 52; refine (CAL.out _).mono ?_; rintro r w' ⟨rfl, hw'⟩; exact ⟨rfl, hJ1.out _ _ hw'⟩)))); refine wpQuiet_nil ?_; rintro _ ⟨i1, rfl⟩
                have HM5 := hide (HM4.out.below (HF.out i1))
                have hB5 := HFW.out i1
                go_wp2_with (fail)
                go_roundw
                case rel => exact ⟨s, (s : Int) - 1, upd T r s M, by omega, rfl, rfl, HM5.out, fun p q h1 h2 h3 => by (rw [upd_other (by have := HR1.out; omega)]; exact HDONE3.out p q h1 h2 h3), fun p q h => by (rw [upd_other (by omega)]; exact HZERO3.out p q h), fun q h1 h2 => by (by_cases e : q = s); (subst e; rw [upd_same]; exact HV.out.symm); (rw [upd_other (fun h => e h.2)]; exact HROW.out q (by omega) h2), hB5⟩
                case measure => simp [intOf]; try omega
              · rw [hal] at CAL
                obtain ⟨d1, hd1⟩ : ∃ d1 : Nat, d1 = d + 1 := ⟨_, rfl⟩
                obtain ⟨M2, hM2⟩ : ∃ M2, max M d1 = M2 := ⟨_, rfl⟩
                have HV := hide (show lcs (a.drop r) (b.drop s) = M2 by rw [HLCS.out, hal, if_pos rfl, HHM.out, ← hd1, hM2])
                have ed : (d : Int) + 1 = (d1 : Int) := by omega
                have i10 : IntKind.i64.wrap ((d : Int) + 1) = (d1 : Int) := by rw [ed]; exact IntWalk.i64_in _ (by omega)
                have i11 : IntKind.i64.wrap (d1 : Int) = (d1 : Int) := IntWalk.i64_in _ (by omega)
                have hMax2 : max (M : Int) (d1 : Int) = (M2 : Int) := by omega
                clear hal hd1 hM2
                refine wp_region_fam F1 hi1 (by kernel_rfl) (by kernel_rfl) ?_; (repeat (go_big_quiet_step ((go_at_call 52; refine (CAL.out _).mono ?_; rintro r w' ⟨rfl, hw'⟩; exact ⟨rfl, hJ1.out _ _ hw'⟩)))); refine wpQuiet_nil ?_; rintro _ ⟨i1, rfl⟩
                have HM5 := hide (HM4.out.below (HF.out i1))
                have hB5 := HFW.out i1
                clear x0 x1 x2 x3 x4 x5 y0 y1 y2 y3 y4 y5
                generalize F1 i1 = w5 at HM5 hB5 ⊢
                have hz5 := hB5.size
                have k0 := HM5.out.head HGR.out
                have k1 := HM5.out.head HGR1.out
                have k2 := HM5.out.cell HGR.out hsm1
                have k3 := HM5.out.cell HGR1.out hs1m
                have k5 := HM5.out.free HGR.out s
                rw [upd_same] at k2
                rw [upd_other (by have := HR1.out; omega), HHP.out.2.2] at k3
                go_wp2_with (fail)
                go_still_tail 24, (by kernel_rfl)
                change wpList _ _ _ _ _ w5.drew
                go_wp2_with (fail)
                go_roundw
                case rel => exact ⟨s, (s : Int) - 1, upd (upd T r s M) r s M2, by omega, rfl, rfl, (HM5.out.set HGR.out M2 (j := s)).below ((Below.refl _ _).drew), fun p q h1 h2 h3 => by (rw [upd_other (by have := HR1.out; omega), upd_other (by have := HR1.out; omega)]; exact HDONE3.out p q h1 h2 h3), fun p q h => by (rw [upd_other (by omega), upd_other (by omega)]; exact HZERO3.out p q h), fun q h1 h2 => by (by_cases e : q = s); (subst e; rw [upd_same]; exact HV.out.symm); (rw [upd_other (fun h => e h.2), upd_other (fun h => e h.2)]; exact HROW.out q (by omega) h2), (below_set hB5 (HM5.out.ge HGR.out) _).drew⟩
                case measure => simp [intOf]; try omega
end Go.Proofs.YtbfhicimjijdeaaDoor
