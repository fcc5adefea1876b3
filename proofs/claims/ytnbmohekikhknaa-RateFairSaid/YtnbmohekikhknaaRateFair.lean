/- The law RateFair. -/
import Derived.Test.YtnbmohekikhknaaRateShP
import Derived.Test.YtnbmohekikhknaaRateFairL
import Derived.Test.YtnbmohekikhknaaRateOpnS
import Derived.Test.YtnbmohekikhknaaRows
import Derived.BigQuiet
namespace Go.Proofs.Ytnbmohekikhknaa
open Go.RowKit
theorem Sl.up' {α : Type} {w w' : World} {B sz n : Nat} {f : α → List Value} {A : Option Addr} {l : List α} (h : Sl w B f sz A n l) (hb : Below B w w') (hB : B ≤ w'.heap.size) : Sl w' w'.heap.size f sz A n l := (h.below hb).more hB
section
variable (A : Option Addr) (n cap : Nat) (l : List Share) (most : Int) (w : World) (hn : n ≤ maxLen) (hl : Sl w w.heap.size Share.cs 2 A n l) (hf : KeysFit l)
include hn hl hf
set_option maxRecDepth 100000 in
set_option maxHeartbeats 2000000 in
theorem RateFair_E (hE : sharesE l most ≠ 0) : Calls Try.prog 6 #[.slice A n cap, .int .i64 most] w fun e w' => e = .returned (.bool true) ∧ Below w.heap.size w w' := by
  have CP := hide (fun W h => Shares_bad A n cap l most W hn h hf hE)
  obtain ⟨E, hEE⟩ : ∃ E, sharesE l most = E := ⟨_, rfl⟩
  rw [hEE] at CP hE
  have hE0 : (E == 0) = false := by simpa using hE
  have AW := hide (awakeRate_any w)
  go_enter Try.func6, Try.ntmps6
  go_wp2_with (first | (go_at_call 12; refine AW.out.mono ?_; rintro r w0 ⟨rfl, hB0⟩) | (go_at_call 24; refine (CP.out _ (hl.up' hB0 hB0.size)).mono ?_; rintro r w1 ⟨rfl, hw1⟩; have hB1 := hB0.trans (hw1.mono hB0.size)))
  go_ret
  exact ⟨rfl, hB1⟩
omit hn in
set_option maxRecDepth 100000 in
set_option maxHeartbeats 8000000 in
theorem RateFair_G (hE : sharesE l most = 0) : Calls Try.prog 6 #[.slice A n cap, .int .i64 most] w fun e w' => e = .returned (.bool true) ∧ Below w.heap.size w w' := by
  have HL := hide hl.len
  have h200 : n ≤ 200 := by
    rcases Nat.lt_or_ge 200 l.length with h2 | h2
    · rw [sharesE_of (show shErr l = 4 by rw [shErr, if_pos h2]) (by decide)] at hE; cases hE
    · have := hl.len; omega
  obtain ⟨hs0, hm, hr⟩ := sharesE_ok (by have := hl.len; omega) hE
  have hmo : 0 ≤ most ∧ most ≤ 1000000000 := by simpa [outsideB] using hm
  obtain ⟨hmost, hmost1⟩ := hmo
  obtain ⟨low0, low1, lowS⟩ := lineOf_spec l most hr hmost
  have CP := hide (fun W h => Shares_walk A n cap l most W h200 h hf hE)
  clear hs0 hm hE
  have AW := hide (awakeRate_any w)
  have HR := hide hr
  have HLS := hide lowS
  clear hr lowS
  obtain ⟨low, hlow⟩ : ∃ low, lineOf l most = low := ⟨_, rfl⟩
  have HGET := hide (fun k x y => ratesOf_get (l := l) (most := most) (k := k) (x := x) (y := y))
  rw [hlow] at low0 low1 HLS HGET
  clear hlow
  go_enter Try.func6, Try.ntmps6
  go_wp2_with (first | (go_at_call 12; refine AW.out.mono ?_; rintro r w0 ⟨rfl, hB0⟩) | (go_at_call 24; refine (CP.out _ (hl.up' hB0 hB0.size)).mono ?_; rintro r w1 ⟨A', c', rfl, hR1, hc1, hm1, hw1⟩; have hB1 := hB0.trans (hw1.mono hB0.size)))
  have hl1 := hl.up' hB1 hB1.size
  go_loopw [7, 32] (fun s i wr => ∃ k : Nat, k ≤ n ∧ i = .int .i64 k ∧ s = .int .i64 (keptSum low (l.take k)) ∧ Below w1.heap.size w1 wr) (fun _ i _ => n - (intOf i).toNat)
  case atStart => exact ⟨0, Nat.zero_le _, rfl, rfl, Below.refl _ _⟩
  case round =>
    obtain ⟨k, hk, rfl, rfl, hB⟩ := hrel
    have hz := hB.size
    have hsb := keptSum_le (l.take k) low low0 (fun y hy => HR.out y (List.mem_of_mem_take hy))
    have hsm := sumMin_bd (l.take k) low low0 (fun y hy => HR.out y (List.mem_of_mem_take hy))
    have hlen : (l.take k).length ≤ k := List.length_take_le _ _
    obtain ⟨s0, s1⟩ := hsb
    obtain ⟨_, s2⟩ := hsm
    have s3 : keptSum low (l.take k) ≤ 200000000000 := by omega
    clear s1 s2
    by_cases hlt : k < n
    · obtain ⟨bb, oo, x, hA, hbb, hx, hc⟩ := (hl1.below hB).at_ hlt
      obtain ⟨bq, oq, y, hA', hbq, hy, hq⟩ := (hR1.below hB).at_ hlt
      obtain rfl := HGET.out k x y hx hy
      subst hA hA'
      obtain ⟨x0, x1⟩ := HR.out x (List.mem_of_getElem? hx)
      obtain ⟨k0, k1⟩ := keepOf_bd (c := x.came) low0
      obtain ⟨p0, p1, p2⟩ := kept_le low0 x0
      have HX := hide hx
      have hxc0 : wr.cell? ⟨bb, oo + k * 2, none⟩ = some (.string x.key) := by have := hc 0 _ rfl; simpa using this
      have hxc1 : wr.cell? ⟨bb, oo + k * 2 + 1, none⟩ = some (.int .i64 x.came) := hc 1 _ rfl
      have hyc0 : wr.cell? ⟨bq, oq + k * 2, none⟩ = some (.string x.key) := by have := hq 0 _ rfl; simpa using this
      have hyc1 : wr.cell? ⟨bq, oq + k * 2 + 1, none⟩ = some (.int .i64 (keepOf low x.came)) := hq 1 _ rfl
      have HAN := hide (fun d (h : x.came ≤ d) => keepOf_anti (c := x.came) (d := d) low0 h)
      clear hc hq hx hy
      have HQ := hide (rfl : keepOf low x.came = keepOf low x.came)
      generalize hKX : keepOf low x.came = q at k0 k1 p0 p1 p2 hyc1 HAN
      have HKX := hide hKX
      clear hKX
      have e0 : decide (q < 0) = false := by simp; omega
      have e1 : decide (1000000 < q) = false := by simp; omega
      have e2 : x.came * q / 1000000 ≤ 1000000000 := by omega
      have e3 : 0 ≤ x.came * q / 1000000 := Int.ediv_nonneg p0 (by omega)
      have e4 : x.came * q ≤ 1000000000000000 := by omega
      go_wp2_with (go_quiet (fail))
      obtain ⟨wp, rfl⟩ : ∃ wp : World, wp = wr := ⟨_, rfl⟩
      go_loopw [74] (fun i wr => ∃ j : Nat, j ≤ n ∧ i = .int .i64 j ∧ Below w1.heap.size w1 wr ∧ wp.heap.size < wr.heap.size ∧ wr.cell? ⟨wp.heap.size, 1, none⟩ = some (.int .i64 x.came)) (fun i _ => n - (intOf i).toNat)
      case atStart => exact ⟨0, Nat.zero_le _, rfl, below_drewN (hB.alloc hz _) _, by simp [World.drewN], by rw [World.cell?_drewN]; simp⟩
      case round =>
        obtain ⟨j, hj, rfl, hBq, hwr, hxq⟩ := hrel
        have hzq := hBq.size
        by_cases hlt2 : j < n
        · obtain ⟨b2, o2, x2, hA2, hb2, hx2, hc2⟩ := (hl1.below hBq).at_ hlt2
          obtain ⟨b3, o3, y3, hA3, hb3, hy3, hq3⟩ := (hR1.below hBq).at_ hlt2
          obtain ⟨b4, o4, y4, hA4, hb4, hy4, hq4⟩ := (hR1.below hBq).at_ hlt
          obtain rfl := HGET.out j x2 y3 hx2 hy3
          obtain rfl := HGET.out k x y4 HX.out hy4
          simp only [Option.some.injEq, Addr.mk.injEq] at hA2 hA3 hA4
          obtain ⟨rfl, rfl, _⟩ := hA2
          obtain ⟨rfl, rfl, _⟩ := hA3
          obtain ⟨rfl, rfl, _⟩ := hA4
          have d0 : wr.cell? ⟨bb, oo + j * 2, none⟩ = some (.string x2.key) := by have := hc2 0 _ rfl; simpa using this
          have d1 : wr.cell? ⟨bb, oo + j * 2 + 1, none⟩ = some (.int .i64 x2.came) := hc2 1 _ rfl
          have d2 : wr.cell? ⟨bq, oq + j * 2 + 1, none⟩ = some (.int .i64 (keepOf low x2.came)) := hq3 1 _ rfl
          have d3 : wr.cell? ⟨bq, oq + k * 2 + 1, none⟩ = some (.int .i64 q) := by have := hq4 1 _ rfl; simpa [HKX.out] using this
          clear hc2 hq3 hq4 hx2 hy3 hy4 hxc0 hxc1 hyc0 hyc1
          by_cases hle : x.came ≤ x2.came
          · have g0 : decide (x.came ≤ x2.came) = true := by simpa using hle
            have g1 : decide (q < keepOf low x2.came) = false := by have := HAN.out _ hle; simp; omega
            go_wp2_with (go_quiet (fail))
            go_roundw
            case rel => exact ⟨j + 1, by omega, by go_num, below_drewN (hBq.alloc hzq _) _, by simp [World.drewN]; omega, ((below_drewN ((Below.refl wr.heap.size wr).alloc (Nat.le_refl _) _) _).cell hwr).trans hxq⟩
            case measure => simp [intOf]; omega
          · have g0 : decide (x.came ≤ x2.came) = false := by simpa using hle
            go_wp2_with (go_quiet (fail))
            go_roundw
            case rel => exact ⟨j + 1, by omega, by go_num, below_drewN (hBq.alloc hzq _) _, by simp [World.drewN]; omega, ((below_drewN ((Below.refl wr.heap.size wr).alloc (Nat.le_refl _) _) _).cell hwr).trans hxq⟩
            case measure => simp [intOf]; omega
        · go_wp2_with (fail)
          go_roundw
          case rel => exact ⟨k + 1, by omega, by go_num, by rw [take_succ_get HX.out, keptSum_snoc, HKX.out], hBq⟩
          case measure => simp [intOf]; omega
    · have hsum : keptSum low (l.take k) ≤ most := by
        rw [take_len l (by have := HL.out; omega)]
        exact Int.le_trans (keptSum_le l low low0 HR.out).2 HLS.out
      have e5 : decide (keptSum low (l.take k) ≤ most) = true := by simpa using hsum
      go_wp2_with (fail)
      go_ret
      exact ⟨rfl, hB1.trans (hB.mono hB1.size)⟩
theorem RateFair_all : Calls Try.prog 6 #[.slice A n cap, .int .i64 most] w fun e w' => e = .returned (.bool true) ∧ Below w.heap.size w w' := by
  by_cases hE : sharesE l most = 0
  · exact RateFair_G A n cap l most w hl hf hE
  · exact RateFair_E A n cap l most w hn hl hf hE
end
namespace rateFair
set_option maxRecDepth 100000 in
theorem walk {H : Type} {enc : TypeId × Value → H} {d0 : DataW H} {p0 : List MemPlace} {base : Nat} {W : World}
    (v0 : Value) (k0 : DataW.Trod enc Try.prog W 0 (fun _ => true) true 46 v0 d0 p0) (ok0 : Value.okWide Try.prog W .any base 46 v0)
    (a1 : Int) (_w1 : (Lit.int .i64 a1).wf = true) :
    Calls Try.prog 6 #[v0, .int .i64 a1] W fun e w' => e = .returned (.bool true) ∧ Below W.heap.size W w' := by
  obtain ⟨A, n, cap, l, rfl, hl, hnc, hcm, hf⟩ := open_shares ok0 k0
  exact RateFair_all A n cap l a1 W (Nat.le_trans hnc hcm) hl hf
end rateFair
end Go.Proofs.Ytnbmohekikhknaa
