/- Walk of Spike. -/
import Derived.Test.YtelheecamghigaaRateSpE
namespace Go.Proofs.Ytelheecamghigaa
open Go.RowKit Go.Shelf
set_option linter.unusedVariables false
theorem zs_len {l : List Int} {m : Nat} (h : l.length = m + 1) : l.dropLast.length = m := by simp [h]
theorem zs_get {l : List Int} {m j : Nat} (h : l.length = m + 1) (hj : j < m) : l.dropLast[j]? = l[j]? := by
  rw [List.getElem?_dropLast]; simp [h, hj]
/-- What the middle is, and between which bounds it lies. -/
theorem mid_of {l : List Int} {m : Nat} (h : l.length = m + 1) (hm : 1 ≤ m) (hl : ∀ x ∈ l, 0 ≤ x ∧ x ≤ 1000000000) : (srt l.dropLast)[(m - 1) / 2]? = some (midOf l) ∧ 0 ≤ midOf l ∧ midOf l ≤ 1000000000 := by
  have hlen : (srt l.dropLast).length = m := by rw [srt_len, zs_len h]
  have hlt : (m - 1) / 2 < (srt l.dropLast).length := by rw [hlen]; omega
  have e : midOf l = (srt l.dropLast)[(m - 1) / 2] := by
    unfold midOf
    rw [h, show m + 1 - 2 = m - 1 by omega, List.getElem?_eq_getElem hlt]
    rfl
  refine ⟨by rw [e]; exact List.getElem?_eq_getElem hlt, ?_⟩
  exact srt_mem (P := fun x => 0 ≤ x ∧ x ≤ 1000000000) (fun x hx => hl x (List.dropLast_subset l hx)) (by rw [e]; exact List.getElem?_eq_getElem hlt)
/-- What is said of a spike. -/
def spikeV (l : List Int) (p q : Int) : Bool × Int := (decide (markOf l p q < l.getLast?.getD 0), markOf l p q)
set_option maxRecDepth 100000 in
set_option maxHeartbeats 4000000 in
theorem Spike_any (A : Option Addr) (n c : Nat) (l : List Int) (p q : Int) (w : World) (hn : n ≤ maxLen) (hnc : n ≤ c) (hc63 : c ≤ maxLen) (hl : Sl w w.heap.size ci 1 A n l) :
    Calls Try.prog 4 #[.slice A n c, .int .i64 p, .int .i64 q] w fun e w' => e = .returned (if spErr l p q = 0 then .tuple #[.bool (spikeV l p q).1, .int .i64 (spikeV l p q).2, .int .i64 0] else .tuple #[.bool false, .int .i64 0, .int .i64 (spErr l p q)]) ∧ Below w.heap.size w w' := by
  unfold maxLen at hn hc63
  have HL := hide hl.len
  have HSL := hide hl
  have bad : ∀ k : Int, k ≠ 0 → spErr l p q = k → (if spErr l p q = 0 then (Value.tuple #[.bool (spikeV l p q).1, .int .i64 (spikeV l p q).2, .int .i64 0]) else .tuple #[.bool false, .int .i64 0, .int .i64 (spErr l p q)]) = .tuple #[.bool false, .int .i64 0, .int .i64 k] := fun k hk e => by rw [e, if_neg hk]
  obtain ⟨V, hV⟩ : ∃ V : Value, (if spErr l p q = 0 then (Value.tuple #[.bool (spikeV l p q).1, .int .i64 (spikeV l p q).2, .int .i64 0]) else .tuple #[.bool false, .int .i64 0, .int .i64 (spErr l p q)]) = V := ⟨_, rfl⟩
  rw [hV]
  have BAD := hide bad
  have HV := hide hV
  clear bad hV
  by_cases h2 : n < 2
  · have E := hide (show V = .tuple #[.bool false, .int .i64 0, .int .i64 7] from HV.out.symm.trans (BAD.out 7 (by decide) (sp_short (by rw [hl.len]; exact h2))))
    have h2' : (n : Int) < 2 := by omega
    clear hl
    go_enter Try.func4, Try.ntmps4
    go_wp2_with (fail)
    go_ret3
    exact ⟨by rw [E.out]; rfl, Below.refl _ _⟩
  · have h2' : ¬ (n : Int) < 2 := by omega
    by_cases h3 : 1000 < n
    · have E := hide (show V = .tuple #[.bool false, .int .i64 0, .int .i64 4] from HV.out.symm.trans (BAD.out 4 (by decide) (sp_long (by rw [hl.len]; exact h3))))
      have h3' : (1000 : Int) < n := by omega
      clear hl
      go_enter Try.func4, Try.ntmps4
      go_wp2_with (fail)
      go_ret3
      exact ⟨by rw [E.out]; rfl, Below.refl _ _⟩
    · have h3' : ¬ (1000 : Int) < n := by omega
      clear hl
      go_enter Try.func4, Try.ntmps4
      go_wp2_with (fail)
      go_loopw [24] (fun i wr => ∃ k : Nat, k ≤ n ∧ i = .int .i64 k ∧ Below w.heap.size w wr ∧ ∀ j x, j < k → l[j]? = some x → outsideB x 0 1000000000 = false) (fun i _ => n - (intOf i).toNat)
      case atStart => exact ⟨0, Nat.zero_le _, rfl, Below.refl _ _, fun j x h => by omega⟩
      case round =>
        obtain ⟨k, hk, rfl, hB, hall⟩ := hrel
        have HALL := hide hall
        clear hall
        by_cases hlt : k < n
        · obtain ⟨b, o, x, rfl, hb, hx, hc⟩ := (HSL.out.below hB).at_ hlt
          have hc0 : wr.cell? ⟨b, o + k, none⟩ = some (.int .i64 x) := by simpa [ci] using hc 0 _ rfl
          have HX := hide hx
          have HIN := hide (fun W => outside_any x 0 1000000000 W)
          clear hc hx
          cases ho : outsideB x 0 1000000000
          · rw [ho] at HIN
            have HO := hide ho
            clear ho
            go_wp2_with (go_at_call 7; refine (HIN.out _).mono ?_; rintro e w' ⟨rfl, rfl⟩)
            go_roundw
            case rel => exact ⟨k + 1, by omega, by go_num, hB, fun j y hj hy => by (by_cases e : j = k); (subst e; rw [HX.out] at hy; cases hy; exact HO.out); exact HALL.out j y (by omega) hy⟩
            case measure => simp [intOf]; omega
          · have E := hide (show V = .tuple #[.bool false, .int .i64 0, .int .i64 2] from HV.out.symm.trans (BAD.out 2 (by decide) (sp_hit (by rw [HL.out]; omega) (by rw [HL.out]; omega) HX.out ho)))
            rw [ho] at HIN
            clear ho
            go_wp2_with (go_at_call 7; refine (HIN.out _).mono ?_; rintro e w' ⟨rfl, rfl⟩)
            go_ret3
            exact ⟨by rw [E.out]; rfl, hB⟩
        · obtain rfl : k = n := by omega
          have HP := hide (fun W => outside_any p 0 100000 W)
          have HQ := hide (fun W => outside_any q 0 1000000000 W)
          cases hp : outsideB p 0 100000
          · cases hq : outsideB q 0 1000000000
            · have HA := all_of HL.out HALL.out
              have E0 := sp_ok (by rw [HL.out]; omega) (by rw [HL.out]; omega) HA hp hq
              have E := hide (show V = .tuple #[.bool (spikeV l p q).1, .int .i64 (spikeV l p q).2, .int .i64 0] from HV.out.symm.trans (by rw [if_pos E0]))
              have bp := outB_false hp
              have bq := outB_false hq
              rw [hp] at HP
              rw [hq] at HQ
              clear hp hq E0
              obtain ⟨m, rfl⟩ : ∃ m, k = m + 1 := ⟨k - 1, by omega⟩
              obtain ⟨M, hM⟩ : ∃ M, midOf l = M := ⟨_, rfl⟩
              obtain ⟨hm1, hm2, hm3⟩ := mid_of HL.out (by omega) HA
              rw [hM] at hm1 hm2 hm3
              obtain ⟨b, o, x, rfl, hb, hx, hc⟩ := (HSL.out.below hB).at_ (k := m) (by omega)
              have hc0 : wr.cell? ⟨b, o + m, none⟩ = some (.int .i64 x) := by simpa [ci] using hc 0 _ rfl
              have hbr : b < wr.heap.size := by have := hB.size; omega
              have HI := hide (show ∀ o2 : Obj, IntsAt (wr.alloc o2) b o l.dropLast from fun o2 j hj => by
                have hjm : j < m := by rw [zs_len HL.out] at hj; exact hj
                rw [World.cell?_alloc_lt _ _ _ (by simpa using hbr), zs_get HL.out hjm]
                obtain ⟨b', o', y, e, hb', hy, hc'⟩ := (HSL.out.below hB).at_ (k := j) (by omega)
                simp only [Option.some.injEq, Addr.mk.injEq, and_true] at e
                obtain ⟨rfl, rfl⟩ := e
                rw [hy]
                simpa [ci] using hc' 0 _ rfl)
              have HVA := hide (fun W => (callsIn_wide (n := 4)).1 (values_in 4 (some ⟨b, o, none⟩) m c W))
              have hsl : (srt l.dropLast).length = m := by rw [srt_len, zs_len HL.out]
              have hso := sorted_any wr.heap.size b o c l.dropLast (by rw [zs_len HL.out]; omega) (by intro e; have := zs_len HL.out; rw [e] at this; simp at this; omega) (wr.alloc (.cells #[.slice (some ⟨b, o, none⟩) m c] 22)) (by simp) (by simp [zs_len HL.out]) (by simp; omega) (HI.out _)
              unfold OwnInts at hso
              rw [hsl] at hso
              have HSO := hide hso
              clear hso
              have HX := hide (show l.getLast?.getD 0 = x by
                rw [List.getLast?_eq_getElem?, HL.out, show m + 1 - 1 = m by omega, hx]; rfl)
              obtain ⟨t, rfl⟩ : ∃ t, m = t + 1 := ⟨m - 1, by omega⟩
              obtain ⟨r, hr⟩ : ∃ r, t / 2 = r := ⟨_, rfl⟩
              have e1 : (t : Int) / 2 = (r : Int) := by omega
              have e2 : (t : Int).tdiv 2 = (r : Int) := by rw [Int.tdiv_eq_ediv_of_nonneg (by omega)]; exact e1
              have hrm : r < t + 1 := by omega
              have b1 : 0 ≤ M * p := Int.mul_nonneg hm2 bp.1
              have b2 : M * p ≤ 100000000000000 := by
                have h1 := Int.mul_le_mul_of_nonneg_right hm3 bp.1
                have h2 := bp.2
                omega
              have e3 : (M * p + 99).tdiv 100 = (M * p + 99) / 100 := Int.tdiv_eq_ediv_of_nonneg (by omega)
              obtain ⟨T, hT⟩ : ∃ T, (M * p + 99) / 100 = T := ⟨_, rfl⟩
              have b3 : 0 ≤ T ∧ T ≤ 1000000000001 := by omega
              have HS := hide (show spikeV l p q = (decide (max T q < x), max T q) by
                unfold spikeV markOf; rw [hM, hT, HX.out])
              have HR := hide (show (srt l.dropLast)[r]? = some M by rw [← hr]; simpa using hm1)
              have HTT := hide hT
              rw [hT] at e3
              have mc : t + 1 ≤ c := by omega
              have hB1 := hB.alloc hB.size (.cells #[.slice (some ⟨b, o, none⟩) (t + 1) c] 22)
              have HB1 := hide hB1
              clear hx hc hM hm1 HA hr hT hB1
              go_wp2_with (first | (go_at_call 7; with_reducible refine (HP.out _).mono ?_; rintro e w' ⟨rfl, rfl⟩) | (go_at_call 7; with_reducible refine (HQ.out _).mono ?_; rintro e w' ⟨rfl, rfl⟩) | (go_at_call 9; refine (HVA.out _).mono ?_; rintro e w1 ⟨rfl, rfl⟩))
              refine HSO.out.mono ?_
              rintro e w2 ⟨v, rfl, ⟨g, cap, rfl, hg, hgl, hIR⟩, hB2⟩
              have hz2 := HB1.out.size
              have hB3 := HB1.out.trans (hB2.mono hz2)
              have d0 : w2.cell? ⟨g, r, none⟩ = some (.int .i64 M) := by
                have h := (hIR r hrm).1
                simp only [HR.out] at h
                exact h
              have d1 : w2.cell? ⟨b, o + (t + 1), none⟩ = some (.int .i64 x) := (hB2.cell (p := ⟨b, o + (t + 1), none⟩) (by rw [World.size_alloc]; exact Nat.lt_succ_of_lt hbr)).trans ((World.cell?_alloc_lt _ _ _ (by simpa using hbr)).trans hc0)
              clear hIR hB2
              go_wp2_with (fail)
              have E2 := E.out
              rw [HS.out] at E2
              go_ret3
              exact ⟨by rw [E2]; rfl, hB3⟩
            · have E := hide (show V = .tuple #[.bool false, .int .i64 0, .int .i64 2] from HV.out.symm.trans (BAD.out 2 (by decide) (sp_pq (by rw [HL.out]; omega) (by rw [HL.out]; omega) (.inr hq))))
              rw [hp] at HP
              rw [hq] at HQ
              clear hp hq
              go_wp2_with (first | (go_at_call 7; with_reducible refine (HP.out _).mono ?_; rintro e w' ⟨rfl, rfl⟩) | (go_at_call 7; with_reducible refine (HQ.out _).mono ?_; rintro e w' ⟨rfl, rfl⟩))
              go_ret3
              exact ⟨by rw [E.out]; rfl, hB⟩
          · have E := hide (show V = .tuple #[.bool false, .int .i64 0, .int .i64 2] from HV.out.symm.trans (BAD.out 2 (by decide) (sp_pq (by rw [HL.out]; omega) (by rw [HL.out]; omega) (.inl hp))))
            rw [hp] at HP
            clear hp
            go_wp2_with (first | (go_at_call 7; with_reducible refine (HP.out _).mono ?_; rintro e w' ⟨rfl, rfl⟩) | (go_at_call 7; with_reducible refine (HQ.out _).mono ?_; rintro e w' ⟨rfl, rfl⟩))
            go_ret3
            exact ⟨by rw [E.out]; rfl, hB⟩
end Go.Proofs.Ytelheecamghigaa
