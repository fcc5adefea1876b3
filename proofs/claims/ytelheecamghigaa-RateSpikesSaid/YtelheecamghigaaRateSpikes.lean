/- The law RateSpikes: Spike answers as the reference does. -/
import Derived.Test.YtelheecamghigaaRateSpO
import Derived.Test.YtelheecamghigaaOpenSl
namespace Go.Proofs.Ytelheecamghigaa
open Go.RowKit Go.ChangeShapes Go.WideShapes Go.Joins
set_option linter.unusedVariables false
theorem el_int {H : Type} {enc : TypeId × Value → H} {w : World} {base : Nat} {spare : Nat → Bool} {held : Bool} (n : Nat) (cs : List Value) (x : DataW H × List MemPlace)
    (h : DataW.trod enc Try.prog w base spare held n 3 cs = some x) : ∃ a : Int, cs = ci a ∧ True := by
  obtain ⟨a, e, _, _⟩ := DataW.trod_int Try.underlying3 h
  exact ⟨a, e, trivial⟩
theorem open_ints {H : Type} {enc : TypeId × Value → H} {w : World} {b0 : Nat} {v : Value} {d : DataW H} {p : List MemPlace} {r : Reach}
    (hv : Value.okWide Try.prog w r b0 22 v) (h : DataW.Trod enc Try.prog w 0 (fun _ => true) true 22 v d p) :
    ∃ (A : Option Addr) (n cap : Nat) (l : List Int), v = .slice A n cap ∧ Sl w w.heap.size ci 1 A n l ∧ n ≤ cap ∧ cap ≤ maxLen ∧ ∀ a ∈ l, True :=
  open_sl ci (fun _ => True) Try.underlying22 (by kernel_rfl) (by decide) (fun _ => rfl) (fun n cs x hx => el_int n cs x hx) hv h
theorem sp_zero {l : List Int} {p q : Int} (h : spErr l p q = 0) : 2 ≤ l.length ∧ l.length ≤ 1000 ∧ (∀ x ∈ l, 0 ≤ x ∧ x ≤ 1000000000) ∧ (0 ≤ p ∧ p ≤ 100000) ∧ (0 ≤ q ∧ q ≤ 1000000000) := by
  unfold spErr at h
  by_cases h1 : l.length < 2
  · rw [if_pos h1] at h; cases h
  · rw [if_neg h1] at h
    by_cases h2 : 1000 < l.length
    · rw [if_pos h2] at h; cases h
    · rw [if_neg h2] at h
      by_cases h3 : ∃ x ∈ l, x < 0 ∨ 1000000000 < x
      · rw [if_pos h3] at h; cases h
      · rw [if_neg h3] at h
        by_cases h4 : (p < 0 ∨ 100000 < p) ∨ (q < 0 ∨ 1000000000 < q)
        · rw [if_pos h4] at h; cases h
        · refine ⟨by omega, by omega, fun x hx => ?_, by omega, by omega⟩
          by_cases h5 : x < 0 ∨ 1000000000 < x
          · exact absurd ⟨x, hx, h5⟩ h3
          · omega
namespace rateSpikes
set_option maxRecDepth 100000 in
set_option maxHeartbeats 4000000 in
theorem law_any (A : Option Addr) (n c : Nat) (l : List Int) (p q : Int) (w : World) (hnc : n ≤ c) (hc63 : c ≤ maxLen) (hl : Sl w w.heap.size ci 1 A n l) :
    Calls Try.prog 3 #[.slice A n c, .int .i64 p, .int .i64 q] w fun e w' => e = .returned (.bool true) ∧ Below w.heap.size w w' := by
  have hn : n ≤ maxLen := Nat.le_trans hnc hc63
  have HSP := hide (Spike_any A n c l p q w hn hnc hc63 hl)
  have HSL := hide hl
  by_cases e0 : spErr l p q = 0
  · obtain ⟨h2, h3, hA, bp, bq⟩ := sp_zero e0
    rw [if_pos e0] at HSP
    obtain ⟨t, ht⟩ : ∃ t, n = t + 1 + 1 := ⟨n - 2, by have := hl.len; omega⟩
    subst ht
    obtain ⟨b, o, rfl, hb, hcs⟩ := hl.cells (by omega)
    have hlen := hl.len
    have HSE := hide (fun W (h : Sl W W.heap.size ci 1 (some ⟨b, o, none⟩) (t + 1 + 1) l) => SpikeError_any (some ⟨b, o, none⟩) (t + 1 + 1) c l p q W hn h)
    rw [e0] at HSE
    have HSO := hide (fun W (hbW : b < W.heap.size) (hcW : ∀ j x, l[j]? = some x → W.cell? ⟨b, o + j, none⟩ = some (.int .i64 x)) => SpikeOf_any b o t c l p q W hc63 hnc (by omega) hlen hA bp bq hbW hcW)
    have HC := hide (show ∀ j x, l[j]? = some x → w.cell? ⟨b, o + j, none⟩ = some (.int .i64 x) from fun j x hx => by simpa [ci] using hcs j x hx 0 _ rfl)
    obtain ⟨B, hBv⟩ : ∃ B, (spikeV l p q).1 = B := ⟨_, rfl⟩
    obtain ⟨M, hMv⟩ : ∃ M, (spikeV l p q).2 = M := ⟨_, rfl⟩
    rw [hBv, hMv] at HSP HSO
    have HB := hide hb
    clear hcs hl hA e0 hBv hMv hlen
    go_enter Try.func3, Try.ntmps3
    go_wp2_with (fail)
    refine HSP.out.mono ?_
    rintro e w1 ⟨rfl, hB1⟩
    have hz1 := hB1.size
    go_wp2_with (fail)
    refine (HSE.out w1 ((HSL.out.below hB1).more hz1)).mono ?_
    rintro e w2 ⟨rfl, hw2⟩
    have hB2 := hB1.trans (hw2.mono hz1)
    have hz2 := hB2.size
    go_wp2_with (fail)
    refine (HSO.out w2 (by have := HB.out; omega) (fun j x hx => (hB2.cell (p := ⟨b, o + j, none⟩) HB.out).trans (HC.out j x hx))).mono ?_
    rintro e w3 ⟨rfl, hw3⟩
    have hB3 := hB2.trans (hw3.mono hz2)
    go_wp2_with (fail)
    go_ret
    exact ⟨by first | rfl | (cases B <;> simp) , hB3⟩
  · rw [if_neg e0] at HSP
    have HSE := hide (fun W (h : Sl W W.heap.size ci 1 A n l) => SpikeError_any A n c l p q W hn h)
    obtain ⟨K, hK⟩ : ∃ K, spErr l p q = K := ⟨_, rfl⟩
    rw [hK] at HSP HSE e0
    have e1 : (K == 0) = false := by simpa using e0
    clear hl hK
    go_enter Try.func3, Try.ntmps3
    go_wp2_with (fail)
    refine HSP.out.mono ?_
    rintro e w1 ⟨rfl, hB1⟩
    have hz1 := hB1.size
    go_wp2_with (fail)
    refine (HSE.out w1 ((HSL.out.below hB1).more hz1)).mono ?_
    rintro e w2 ⟨rfl, hw2⟩
    have hB2 := hB1.trans (hw2.mono hz1)
    go_wp2_with (fail)
    go_ret
    exact ⟨by first | rfl | simp, hB2⟩
theorem walk {H : Type} {enc : TypeId × Value → H} {d0 : DataW H} {p0 : List MemPlace} {base : Nat} {W : World}
    (v0 : Value) (k0 : DataW.Trod enc Try.prog W 0 (fun _ => true) true 22 v0 d0 p0) (ok0 : Value.okWide Try.prog W .any base 22 v0)
    (a1 : Int) (_w1 : (Lit.int .i64 a1).wf = true) (a2 : Int) (_w2 : (Lit.int .i64 a2).wf = true) :
    Calls Try.prog 3 #[v0, .int .i64 a1, .int .i64 a2] W fun e w' => e = .returned (.bool true) ∧ Below W.heap.size W w' := by
  obtain ⟨A, n, cap, l, rfl, hl, hnc, hcm, _⟩ := open_ints ok0 k0
  exact law_any A n cap l a1 a2 W hnc hcm hl
end rateSpikes
end Go.Proofs.Ytelheecamghigaa
