/- Walks of rate.Shares and inqref1.SharesOf (printed by gen_sh.py): the greatest count, the search, the sum at a line, the rates. -/
import Derived.Test.YtnbmohekikhknaaRateSrch
import Derived.Test.YtnbmohekikhknaaRateChk
namespace Go.Proofs.Ytnbmohekikhknaa
open Go.RowKit
theorem info_rate : (Try.prog.info? 53).map (fun i => (i.zero, i.size, i.bytes)) = some (some (.agg #[.string ByteArray.empty, .int .i64 0]), 2, 24) := by kernel_rfl
/-- The rates of all, as a new slice; e is what is returned round it. -/
def GivesRates (mk : Value → Value) (l : List Share) (most : Int) (W : World) (e : Ending) (w' : World) : Prop :=
  ∃ A c, e = .returned (mk (.slice A l.length c)) ∧ Sl w' w'.heap.size RateK.cs 2 A l.length (ratesOf l most) ∧ l.length ≤ c ∧ (l.length = 0 ∨ c ≤ maxLen) ∧ Below W.heap.size W w'

theorem shErrAt_ok {l : List Share} {k : Nat} {x : Share} (hx : l[k]? = some x) (h : shErrAt l k = 0) : outsideB x.came 0 1000000000 = false := by
  rw [shErrAt, hx] at h
  simp only at h
  split at h
  · split at h
    · exact absurd h (by decide)
    · split at h
      · exact absurd h (by decide)
      · rename_i h3; simpa using h3
  · rename_i h1; exact absurd h h1
theorem sharesE_ok {l : List Share} {most : Int} (h200 : ¬ 200 < l.length) (h : sharesE l most = 0) : shErr l = 0 ∧ outsideB most 0 1000000000 = false ∧ InRange l := by
  unfold sharesE at h
  split at h
  · rename_i h0
    refine ⟨h0, ?_, fun x hx => ?_⟩
    · split at h
      · exact absurd h (by decide)
      · rename_i h2; simpa using h2
    · obtain ⟨k, hk, rfl⟩ := List.mem_iff_getElem.1 hx
      rw [shErr, if_neg h200] at h0
      have := shErrAt_ok (List.getElem?_eq_getElem hk) (firstErr_all h0 k hk)
      simpa [outsideB] using this
  · rename_i h0; exact absurd h h0
theorem Shares_bad (A : Option Addr) (n cap : Nat) (l : List Share) (most : Int) (w : World) (hn : n ≤ maxLen) (hl : Sl w w.heap.size Share.cs 2 A n l) (hf : KeysFit l) (hE : sharesE l most ≠ 0) :
    Calls Try.prog 24 #[.slice A n cap, .int .i64 most] w fun e w' => e = .returned (.tuple #[.slice none 0 0, .int .i64 (sharesE l most)]) ∧ Below w.heap.size w w' := by
  have C := hide (checkShares_any A n cap l w hn hl hf)
  by_cases hs0 : shErr l = 0
  · have hm : outsideB most 0 1000000000 = true := by
      cases h : outsideB most 0 1000000000
      · exact absurd (by rw [sharesE, if_pos hs0, h]; rfl) hE
      · rfl
    have E := hide (show sharesE l most = 2 by rw [sharesE, if_pos hs0, hm]; rfl)
    rw [hs0] at C
    clear hs0 hE
    go_enter Try.func24, Try.ntmps24
    go_wp2_with (first | (go_at_call 41; refine C.out.mono ?_; rintro r w0 ⟨rfl, hB0⟩) | (go_at_call 33; refine (outside_any _ _ _ _).mono ?_; rintro e w' ⟨rfl, rfl⟩))
    go_ret2
    exact ⟨by rw [E.out]; rfl, hB0⟩
  · have E := hide (show sharesE l most = shErr l by rw [sharesE, if_neg hs0])
    go_enter Try.func24, Try.ntmps24
    go_wp2_with (first | (go_at_call 41; refine C.out.mono ?_; rintro r w0 ⟨rfl, hB0⟩) | (go_at_call 33; refine (outside_any _ _ _ _).mono ?_; rintro e w' ⟨rfl, rfl⟩))
    go_ret2
    exact ⟨by rw [E.out]; rfl, hB0⟩
set_option maxRecDepth 100000 in
set_option maxHeartbeats 8000000 in
theorem SharesOf_walk (A : Option Addr) (n cap : Nat) (l : List Share) (most : Int) (w : World) (hn : n ≤ 200) (hl : Sl w w.heap.size Share.cs 2 A n l) (hr : InRange l) (hmost : 0 ≤ most) :
    Calls Try.prog 28 #[.slice A n cap, .int .i64 most] w fun e w' => ∃ A' c', e = .returned (.slice A' n c') ∧ Sl w' w'.heap.size RateK.cs 2 A' n (ratesOf l most) ∧ n ≤ c' ∧ (n = 0 ∨ c' ≤ maxLen) ∧ Below w.heap.size w w' := by
  have HL := hide hl.len
  obtain ⟨i0, hi0, iz0, iz1, iz2⟩ := info_parts info_rate
  go_enter Try.func28, Try.ntmps28
  go_wp2_with (fail)
  go_loopw [6, 19] (fun h i wr => ∃ k : Nat, k ≤ n ∧ i = .int .i64 k ∧ h = .int .i64 (maxCame (l.take k)) ∧ Below w.heap.size w wr) (fun _ i _ => n - (intOf i).toNat)
  case atStart => exact ⟨0, Nat.zero_le _, rfl, rfl, Below.refl _ _⟩
  case round =>
    obtain ⟨k, hk, rfl, rfl, hB⟩ := hrel
    have hz := hB.size
    by_cases hlt : k < n
    · obtain ⟨bb, oo, x, rfl, hbb, hx, hc⟩ := (hl.below hB).at_ hlt
      have c0 := hc 0 _ rfl
      have c1 := hc 1 _ rfl
      simp only [Nat.add_zero] at c0
      have HX := hide hx
      have HXB := hide (hr x (List.mem_of_getElem? hx))
      clear hc hx
      go_wp2_with (fail)
      go_roundw
      case rel => exact ⟨k + 1, by omega, by go_num, by rw [take_succ_get HX.out, maxCame_snoc, mx_max], hB.alloc hz _⟩
      case measure => simp [intOf]; omega
    · have hmc : maxCame (l.take k) = maxCame l := by rw [take_len l (by have := HL.out; omega)]
      obtain ⟨d0, d1, _⟩ := maxCame_bd l hr
      have HLO := hide (lineOf_spec l most hr hmost)
      rw [hmc]
      generalize hM : maxCame l = M at d0 d1 ⊢
      have HM := hide hM
      clear hmc hM
      go_wp2_with (fail)
      clear hlt hk
      obtain ⟨wo, rfl⟩ : ∃ wo : World, wo = wr := ⟨_, rfl⟩
      go_loopw [5, 6] (fun lo hi wr => ∃ a b : Int, 0 ≤ a ∧ a ≤ b ∧ b ≤ 1000000000 ∧ lo = .int .i64 a ∧ hi = .int .i64 b ∧ srch l most a b = lineOf l most ∧ Below w.heap.size w wr) (fun lo hi _ => (intOf hi - intOf lo).toNat)
      case atStart => exact ⟨0, M, by omega, d0, d1, rfl, rfl, by rw [lineOf, HM.out], hB⟩
      case round =>
        obtain ⟨a, b, ha, hab, hb, rfl, rfl, hs, hB2⟩ := hrel
        have HS := hide hs
        clear hs
        by_cases hlt : a < b
        · have hmid : 0 ≤ (a + b + 1) / 2 ∧ (a + b + 1) / 2 ≤ b ∧ a < (a + b + 1) / 2 := by omega
          obtain ⟨m0, m1, m2⟩ := hmid
          obtain ⟨mid, hmd⟩ : ∃ mid, (a + b + 1) / 2 = mid := ⟨_, rfl⟩
          rw [hmd] at m0 m1 m2
          have HMD := hide hmd
          go_wp2_with (fail)
          rw [hmd]
          clear hmd
          obtain ⟨wp, rfl⟩ : ∃ wp : World, wp = wr := ⟨_, rfl⟩
          go_loopw [10, 38] (fun s i wr => ∃ k : Nat, k ≤ n ∧ i = .int .i64 k ∧ s = .int .i64 (sumMin (l.take k) mid) ∧ Below w.heap.size w wr) (fun _ i _ => n - (intOf i).toNat)
          case atStart => exact ⟨0, Nat.zero_le _, rfl, rfl, hB2⟩
          case round =>
            obtain ⟨k, hk, rfl, rfl, hB3⟩ := hrel
            have hz := hB3.size
            have hsb := sumMin_bd (l.take k) mid m0 (fun y hy => hr y (List.mem_of_mem_take hy))
            have hlen : (l.take k).length ≤ k := List.length_take_le _ _
            obtain ⟨s0, s1⟩ := hsb
            by_cases hlt3 : k < n
            · obtain ⟨bb, oo, x, rfl, hbb, hx, hc⟩ := (hl.below hB3).at_ hlt3
              have c0 := hc 0 _ rfl
              have c1 := hc 1 _ rfl
              simp only [Nat.add_zero] at c0
              have HX := hide hx
              obtain ⟨x0, x1⟩ := hr x (List.mem_of_getElem? hx)
              clear hc hx
              go_wp2_with (fail)
              go_roundw
              case rel => exact ⟨k + 1, by omega, by go_num, by rw [take_succ_get HX.out, sumMin_snoc, mn_min], hB3.alloc hz _⟩
              case measure => simp [intOf]; omega
            · have htk : l.take k = l := take_len l (by have := HL.out; omega)
              rw [htk] at s0 s1 ⊢
              generalize hS : sumMin l mid = S at s0 s1 ⊢
              have HSS := hide hS
              clear hS htk hlen
              by_cases hle : S ≤ most
              · go_wp2_with (fail)
                go_roundw
                case rel => exact ⟨mid, b, by omega, by omega, hb, rfl, rfl, by rw [← HS.out, srch_up l most a b hlt (by rw [HMD.out, HSS.out]; exact hle), HMD.out], hB3⟩
                case measure => simp [intOf]; omega
              · go_wp2_with (fail)
                go_roundw
                case rel => exact ⟨a, mid - 1, ha, by omega, by omega, rfl, rfl, by rw [← HS.out, srch_down l most a b hlt (by rw [HMD.out, HSS.out]; exact hle), HMD.out], hB3⟩
                case measure => simp [intOf]; omega
        · have hlo : lineOf l most = a := by rw [← HS.out, srch_end l most a b hlt]
          have HLN := hide hlo
          have hz2 := hB2.size
          clear hlo
          go_wp2_with (fail)
          obtain ⟨wq, rfl⟩ : ∃ wq : World, wq = wr := ⟨_, rfl⟩
          go_loopw [13, 57] (fun v i wr => ∃ k : Nat, k ≤ n ∧ i = .int .i64 k ∧ wr.ownsRow w.heap.size 53 2 v k (((l.take k).map (rateOf a)).flatMap RateK.cs) ∧ Below w.heap.size w wr) (fun _ i _ => n - (intOf i).toNat)
          case atStart => exact ⟨0, Nat.zero_le _, rfl, World.ownsRow_nil _ _ _ _, hB2⟩
          case round =>
            obtain ⟨k, hk, rfl, hown, hB4⟩ := hrel
            have hz := hB4.size
            by_cases hlt4 : k < n
            · obtain ⟨bb, oo, x, rfl, hbb, hx, hc⟩ := (hl.below hB4).at_ hlt4
              have c0 := hc 0 _ rfl
              have c1 := hc 1 _ rfl
              simp only [Nat.add_zero] at c0
              have HX := hide hx
              obtain ⟨x0, x1⟩ := hr x (List.mem_of_getElem? hx)
              have HOWN := hide hown
              have hstep : ((l.take (k + 1)).map (rateOf a)).flatMap RateK.cs = ((l.take k).map (rateOf a)).flatMap RateK.cs ++ (rateOf a x).cs := by rw [take_succ_get HX.out]; simp
              have HST := hide hstep
              clear hc hx hown hstep
              by_cases hm : a < x.came
              · have hR : (rateOf a x).cs = [.string x.key, .int .i64 (a * 1000000 / x.came)] := by simp [rateOf, RateK.cs, hm]
                have HR := hide hR
                have hq0 : 0 ≤ a * 1000000 / x.came := Int.ediv_nonneg (by omega) (by omega)
                have hq1 : a * 1000000 / x.came ≤ 1000000000000000 := Int.le_trans (Int.ediv_le_self _ (by omega)) (by omega)
                clear hR
                go_wp2_with (at_builtin; go_must (refine wpList_append_own _ rfl (.tmp 74) (.tmp 76) 47 rfl w.heap.size 53 i0 (.agg #[.string ByteArray.empty, .int .i64 0]) 2 24 Try.underlying47 hi0 iz0 iz1 iz2 rfl (by decide) _ k _ rfl (((HOWN.out.alloc _).alloc _).alloc _) ⟨wr.heap.size + 1 + 1, 0, none⟩ 1 1 [.string x.key, .int .i64 (a * 1000000 / x.came)] rfl rfl (cells_at _ [.string x.key, .int .i64 (a * 1000000 / x.came)] _ _ (by simp)) (by intro u hu; simp at hu; rcases hu with rfl | rfl <;> rfl) (by unfold maxLen; omega) (by omega) (by simp; omega) ?_; intro v' w1 hown1 hg1 _; have hB5 : Below w.heap.size w w1 := Below.grown (by go_grown) hg1 (by simp; omega) (fun j hj => (World.ownsRow.lt HOWN.out j hj).1); clear hg1))
                go_roundw
                case rel => exact ⟨k + 1, by omega, by go_num, by rw [HST.out, HR.out]; exact hown1, hB5⟩
                case measure => simp [intOf]; omega
              · have hR : (rateOf a x).cs = [.string x.key, .int .i64 1000000] := by simp [rateOf, RateK.cs, hm]
                have HR := hide hR
                clear hR
                go_wp2_with (at_builtin; go_must (refine wpList_append_own _ rfl (.tmp 74) (.tmp 76) 47 rfl w.heap.size 53 i0 (.agg #[.string ByteArray.empty, .int .i64 0]) 2 24 Try.underlying47 hi0 iz0 iz1 iz2 rfl (by decide) _ k _ rfl (((HOWN.out.alloc _).alloc _).alloc _) ⟨wr.heap.size + 1 + 1, 0, none⟩ 1 1 [.string x.key, .int .i64 1000000] rfl rfl (cells_at _ [.string x.key, .int .i64 1000000] _ _ (by simp)) (by intro u hu; simp at hu; rcases hu with rfl | rfl <;> rfl) (by unfold maxLen; omega) (by omega) (by simp; omega) ?_; intro v' w1 hown1 hg1 _; have hB5 : Below w.heap.size w w1 := Below.grown (by go_grown) hg1 (by simp; omega) (fun j hj => (World.ownsRow.lt HOWN.out j hj).1); clear hg1))
                go_roundw
                case rel => exact ⟨k + 1, by omega, by go_num, by rw [HST.out, HR.out]; exact hown1, hB5⟩
                case measure => simp [intOf]; omega
            · obtain rfl : k = n := by omega
              have hall : ((l.take k).map (rateOf a)).flatMap RateK.cs = (ratesOf l most).flatMap RateK.cs := by rw [take_len l (by have := HL.out; omega), ratesOf, HLN.out]
              rw [hall] at hown
              obtain ⟨A', c', rfl, hsl, hcc, hcm⟩ := sl_of_own (f := RateK.cs) (l := ratesOf l most) (fun _ => rfl) (by rw [ratesOf, List.length_map]; exact HL.out) hown
              have HSL := hide hsl
              clear hall hown hsl
              go_wp2_with (fail)
              go_ret
              exact ⟨A', c', rfl, HSL.out, hcc, hcm, hB4⟩
end Go.Proofs.Ytnbmohekikhknaa
