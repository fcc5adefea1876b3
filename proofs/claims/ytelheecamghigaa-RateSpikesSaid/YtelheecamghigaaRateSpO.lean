/- Walk of SpikeOf: the reference sorts by swaps. -/
import Derived.Test.YtelheecamghigaaRateSpk
import Derived.BigRegion
namespace Go.Proofs.Ytelheecamghigaa
open Go.RowKit Go.Shelf
set_option linter.unusedVariables false
theorem below_set {B : Nat} {a w : World} (h : Below B a w) {b i : Nat} (hb : B ≤ b) (u : Value) : Below B a (w.setCell ⟨b, i, none⟩ u) := h.setCell hb u
theorem lst_self (zs : List Int) : lst (fun j => zs[j]?.getD 0) zs.length = zs := upto_all zs
theorem IR.below {w w' : World} {g n : Nat} {f : Nat → Int} (h : IR w g n f) (hg : g < w.heap.size) (hB : Below w.heap.size w w') : IR w' g n f := fun j hj => ⟨(hB.cell (p := ⟨g, j, none⟩) hg).trans (h j hj).1, (hB.frozen (p := ⟨g, j, none⟩) hg).trans (h j hj).2⟩
theorem IR.swap {w : World} {g n k : Nat} {f : Nat → Int} (h : IR w g n f) (hk : k + 1 < n) : IR ((w.setCell ⟨g, k + 1, none⟩ (.int .i64 (f k))).setCell ⟨g, k, none⟩ (.int .i64 (f (k + 1)))) g n (swp f k) := by
  refine IR.set (f := fun j => if j = k + 1 then f k else f j) (h.set (k := k + 1) hk (f k) (if_pos rfl) (fun j hj => if_neg hj)) (by omega) _ (by unfold swp; rw [if_neg (by omega), if_pos rfl]) (fun j hj => ?_)
  unfold swp
  by_cases e : j = k + 1
  · rw [if_pos e, if_pos e]
  · rw [if_neg e, if_neg e, if_neg hj]
set_option maxRecDepth 100000 in
set_option maxHeartbeats 8000000 in
theorem SpikeOf_any (b o t c : Nat) (l : List Int) (p q : Int) (w : World) (hc63 : c ≤ maxLen) (hnc : t + 1 + 1 ≤ c) (ht : t + 1 + 1 ≤ 1000) (hlen : l.length = t + 1 + 1) (hA : ∀ x ∈ l, 0 ≤ x ∧ x ≤ 1000000000) (bp : 0 ≤ p ∧ p ≤ 100000) (bq : 0 ≤ q ∧ q ≤ 1000000000)
    (hb : b < w.heap.size) (hcell : ∀ j x, l[j]? = some x → w.cell? ⟨b, o + j, none⟩ = some (.int .i64 x)) :
    Calls Try.prog 6 #[.slice (some ⟨b, o, none⟩) (t + 1 + 1) c, .int .i64 p, .int .i64 q] w fun e w' => e = .returned (.tuple #[.bool (spikeV l p q).1, .int .i64 (spikeV l p q).2]) ∧ Below w.heap.size w w' := by
  unfold maxLen at hc63
  obtain ⟨M, hM⟩ : ∃ M, midOf l = M := ⟨_, rfl⟩
  obtain ⟨hm1, hm2, hm3⟩ := mid_of hlen (by omega) hA
  rw [hM] at hm1 hm2 hm3
  obtain ⟨zs, hzs⟩ : ∃ zs, l.dropLast = zs := ⟨_, rfl⟩
  have hzl : zs.length = t + 1 := by rw [← hzs]; exact zs_len hlen
  have hzc : ∀ j, j < zs.length → w.cell? ⟨b, o + j, none⟩ = some (.int .i64 (zs.getD j 0)) := fun j hj => by
    have hj' : j < t + 1 := by omega
    have hg : l[j]? = some (zs.getD j 0) := by
      rw [List.getD_eq_getElem?_getD, ← zs_get hlen hj', hzs, List.getElem?_eq_getElem hj]; rfl
    exact hcell j _ hg
  obtain ⟨x, hx⟩ : ∃ x, l[t + 1]? = some x := ⟨l[t + 1]'(by omega), List.getElem?_eq_getElem _⟩
  have hc0 := hcell (t + 1) x hx
  have HX : l.getLast?.getD 0 = x := by
    rw [List.getLast?_eq_getElem?, hlen, show t + 1 + 1 - 1 = t + 1 by omega, hx]; rfl
  obtain ⟨r, hr⟩ : ∃ r, t / 2 = r := ⟨_, rfl⟩
  have e1 : (t : Int) / 2 = (r : Int) := by omega
  have e2 : (t : Int).tdiv 2 = (r : Int) := by rw [Int.tdiv_eq_ediv_of_nonneg (by omega)]; exact e1
  have hrm : r < t + 1 := by omega
  have b1 : 0 ≤ M * p := Int.mul_nonneg hm2 bp.1
  have b2 : M * p ≤ 100000000000000 := by
    have h1 := Int.mul_le_mul_of_nonneg_right hm3 bp.1
    have h2 := bp.2
    omega
  have e3 : (M * p + 99).tdiv 100 = (M * p + 99) / 100 := Int.tdiv_eq_ediv_of_nonneg (by omega)
  obtain ⟨T, hT⟩ : ∃ T, (M * p + 99) / 100 = T := ⟨_, rfl⟩
  have b3 : 0 ≤ T ∧ T ≤ 1000000000001 := by omega
  have HS := hide (show spikeV l p q = (decide (max T q < x), max T q) by
    unfold spikeV markOf; rw [hM, hT, HX])
  have HR := hide (show (srt zs)[r]? = some M by rw [← hr, ← hzs]; simpa using hm1)
  rw [hT] at e3
  have mc : t + 1 ≤ c := by omega
  have HCL := hide (Try.slices_Clone_int b o (t + 1) c zs w (by omega) (by omega) hzc)
  have HZL := hide hzl
  clear hx hM hm1 hA hr hT HX hzs hcell hzc hlen hzl
  go_enter Try.func6, Try.ntmps6
  go_wp2_with (fail)
  refine HCL.out.mono ?_
  rintro e w1 ⟨v, rfl, hrow, hv, hB1⟩
  rw [← HZL.out, List.take_length] at hrow
  obtain ⟨g, cap, rfl, hg, hgl, hIR⟩ := ownInts_of_row hrow hv
  have HP0 := hide (List.Perm.of_eq (lst_self zs))
  rw [HZL.out] at hIR HP0
  rw [HZL.out]
  have HIR := hide hIR
  have hz1 := hB1.size
  have hd1 : w1.cell? ⟨b, o + (t + 1), none⟩ = some (.int .i64 x) := (hB1.cell (p := ⟨b, o + (t + 1), none⟩) hb).trans hc0
  clear hrow hv hIR
  go_wp2_with (fail)
  go_loopw [21] (fun a wr => ∃ (i : Nat) (f : Nat → Int), i ≤ t + 1 ∧ a = .int .i64 i ∧ IR wr g (t + 1) f ∧ (lst f (t + 1)).Perm zs ∧ Srt f i ∧ g < wr.heap.size ∧ Below w.heap.size w wr) (fun a _ => t + 1 - (intOf a).toNat)
  case atStart => exact ⟨0, _, Nat.zero_le _, rfl, HIR.out, HP0.out, fun p q h1 h2 => by omega, hgl, hB1⟩
  case round =>
    obtain ⟨i, f, hi, rfl, hir, hper, hsrt, hgw, hB⟩ := hrel
    have HI := hide hir
    have HP := hide hper
    have HSR := hide hsrt
    have hz := hB.size
    clear hir hper hsrt
    by_cases hlt : i < t + 1
    · go_wp2_with (fail)
      obtain ⟨wo, rfl⟩ : ∃ wo : World, wo = wr := ⟨_, rfl⟩
      go_loopw [10] (fun a wr => ∃ (k : Nat) (f' : Nat → Int), k ≤ i ∧ a = .int .i64 k ∧ IR wr g (t + 1) f' ∧ (lst f' (t + 1)).Perm zs ∧ Ins f' i k ∧ g < wr.heap.size ∧ Below w.heap.size w wr) (fun a _ => (intOf a).toNat)
      case atStart => exact ⟨i, f, Nat.le_refl _, rfl, HI.out, HP.out, Ins.start HSR.out, hgw, hB⟩
      case round =>
        obtain ⟨k, f', hk, rfl, hir, hper, hins, hgw2, hB2⟩ := hrel
        have HI2 := hide hir
        have HP2 := hide hper
        have HIN := hide hins
        clear hir hper hins
        cases k with
        | zero =>
          have HSD := hide (HIN.out.done (Nat.zero_le _) (fun m e => by omega))
          go_wp2_with (go_quiet (fail))
          go_roundw
          case rel => exact ⟨i + 1, f', by omega, by go_num, fun j hj => HI2.out j hj, HP2.out, HSD.out, hgw2, below_drewN hB2 _⟩
          case measure => simp [intOf]; omega
        | succ k =>
          have k1 := (HI2.out (k + 1) (by omega)).1
          have k2 := (HI2.out k (by omega)).1
          have k3 := (HI2.out (k + 1) (by omega)).2
          have k4 := (HI2.out k (by omega)).2
          have g1 : ((k + 1 : Nat) : Int) - 1 = (k : Int) := by omega
          obtain ⟨y, hy⟩ : ∃ y, f' (k + 1) = y := ⟨_, rfl⟩
          obtain ⟨z, hz2⟩ : ∃ z, f' k = z := ⟨_, rfl⟩
          rw [hy] at k1
          rw [hz2] at k2
          by_cases hyz : y < z
          · have HSW := hide (HI2.out.swap (k := k) (by omega))
            have HSP := hide ((lst_swap f' k (t + 1) (by omega)).trans HP2.out)
            have HST := hide (HIN.out.step hk (by rw [hy, hz2]; exact hyz))
            have hyz' : decide (y < z) = true := decide_eq_true hyz
            go_wp2_with (go_quiet (fail))
            clear k1 k2 k3 k4
            have hi3 : IR (wr.drewN nq) g (t + 1) f' := fun j hj => HI2.out j hj
            have hB3 := below_drewN hB2 nq
            have hg3 : g < (wr.drewN nq).heap.size := hgw2
            clear hyz'
            generalize wr.drewN nq = w3 at hi3 hB3 hg3 ⊢
            have k1 := (hi3 (k + 1) (by omega)).1
            have k2 := (hi3 k (by omega)).1
            have k3 := (hi3 (k + 1) (by omega)).2
            have k4 := (hi3 k (by omega)).2
            have HSW := hide (hi3.swap (k := k) (by omega))
            rw [hy] at k1 HSW
            rw [hz2] at k2 HSW
            clear hy hz2 hi3
            go_region
            go_wp2_with (fail)
            go_roundw
            case rel => exact ⟨k, swp f' k, by omega, by go_num, fun j hj => HSW.out j hj, HSP.out, HST.out, by (have := (below_set (below_set (Below.refl 0 w3) (b := g) (i := k + 1) (Nat.zero_le _) (.int .i64 z)) (b := g) (i := k) (Nat.zero_le _) (.int .i64 y)).size); exact Nat.lt_of_lt_of_le hg3 this, (below_set (below_set hB3 hg _) hg _).drew⟩
            case measure => simp [intOf]
          · have hge : ∀ m, k + 1 = m + 1 → f' m ≤ f' (k + 1) := by
              intro m e
              obtain rfl : m = k := by omega
              rw [hy, hz2]
              omega
            have HSD := hide (HIN.out.done hk hge)
            clear hge
            have hyz' : decide (y < z) = false := decide_eq_false hyz
            clear hy hz2
            go_wp2_with (go_quiet (fail))
            go_roundw
            case rel => exact ⟨i + 1, f', by omega, by go_num, fun j hj => HI2.out j hj, HP2.out, HSD.out, hgw2, below_drewN hB2 _⟩
            case measure => simp [intOf]; omega
    · obtain rfl : i = t + 1 := by omega
      have hfr : f r = M := by
        have h1 := lst_get f hrm
        rw [HSR.out.eq HP.out, HR.out] at h1
        exact (Option.some.inj h1).symm
      have d0 : wr.cell? ⟨g, r, none⟩ = some (.int .i64 M) := by rw [← hfr]; exact (HI.out r hrm).1
      have d1 : wr.cell? ⟨b, o + (t + 1), none⟩ = some (.int .i64 x) := (hB.cell (p := ⟨b, o + (t + 1), none⟩) hb).trans hc0
      clear hfr
      go_wp2_with (fail)
      have E2 := HS.out
      go_ret2
      exact ⟨by rw [E2]; rfl, hB⟩
end Go.Proofs.Ytelheecamghigaa
