/- slices.Sorted(slices.Values(s)) at integers: a new slice that holds the numbers in order. -/
import Derived.Test.YtelheecamghigaaRateSeq
import Derived.Test.YtelheecamghigaaRateSpL
import Derived.Test.YtelheecamghigaaShelf
import Derived.Sort.OwnSortedInts
namespace Go.Proofs.Ytelheecamghigaa
open Go.RowKit Go.Shelf
set_option linter.unusedVariables false
/-- A slice of the call's own that holds numbers. -/
def OwnInts (base : Nat) (v : Value) (zs : List Int) (w : World) : Prop := ∃ g cap, v = .slice (some ⟨g, 0, none⟩) zs.length cap ∧ base ≤ g ∧ g < w.heap.size ∧ IR w g zs.length fun j => zs[j]?.getD 0
theorem ownInts_of_row {base : Nat} {v : Value} {zs : List Int} {w : World} (h : w.ownsRow base 3 1 v zs.length (zs.map (Value.int .i64))) (hne : v ≠ .slice none 0 0) : OwnInts base v zs w := by
  rcases h.2 with ⟨rfl, _⟩ | ⟨g, cap, cur, rfl, hb, hg, h1, h2, h3, h4⟩
  · exact absurd rfl hne
  · refine ⟨g, cap, rfl, hb, (Array.getElem?_eq_some_iff.1 hg).1, fun j hj => ⟨?_, by simp [World.frozen?, hg]⟩⟩
    have h5 : (cur.toList.take (zs.length * 1))[j]? = (zs.map (Value.int .i64))[j]? := by rw [h4]
    rw [Nat.mul_one, List.getElem?_take_of_lt hj] at h5
    simp only [World.cell?, hg]
    rw [Array.getElem?_toList] at h5
    simpa [hj] using h5
set_option maxRecDepth 100000 in
set_option maxHeartbeats 2000000 in
theorem sorted_any (Bs b off cap : Nat) (zs : List Int) (hreach : zs.length ≤ 100000) (hne : zs ≠ []) (w : World) (hBs : Bs < w.heap.size) (hc : w.cell? ⟨Bs, 0, none⟩ = some (.slice (some ⟨b, off, none⟩) zs.length cap)) (hb : b < w.heap.size) (hI : IntsAt w b off zs) :
    Calls Try.prog 8 #[.func (.func 14) #[] #[.pointer (some ⟨Bs, 0, none⟩)]] w fun e W' => ∃ v, e = .returned v ∧ OwnInts w.heap.size v (srt zs) W' ∧ Below w.heap.size w W' := by
  have HC := hide ((callsIn_wide (n := 4)).1 (collect_in 4 (by omega) Bs b off cap zs (by omega) w hBs hc hb hI))
  have HNE := hide hne
  clear hne hI
  go_enter Try.func8, Try.ntmps8
  go_wp2_with (go_at_call 12; refine HC.out.mono ?_; rintro e w1 ⟨v, rfl, hrow, hnil, hB⟩)
  have hv : v ≠ .slice none 0 0 := fun e => HNE.out (hnil.1 e)
  rcases hrow.2 with ⟨rfl, _⟩ | ⟨g, cap', cur, rfl, hbase, hg, r1, r2, r3, r4⟩
  · exact absurd rfl hv
  · have hgl : g < w1.heap.size := (Array.getElem?_eq_some_iff.1 hg).1
    have HS := hide (Try.slices_Sort_int g 0 cap' zs w1 (holds_of_blockI hg (by simpa using r4)) hgl (by omega))
    have HG := hide hg
    clear hg hrow hnil hv r4
    go_wp2_with (go_at_call 13; refine HS.out.mono ?_; rintro e w2 ⟨rfl, nn, os, rfl⟩)
    go_ret
    have hown := ownsRow_sortedI (n := nn) (os := os) (ts := srt zs) (srt_len zs) hbase HG.out r1 r2 r3
    rw [← srt_len zs] at hown ⊢
    refine ⟨_, rfl, ownInts_of_row hown (by simp), hB.grown (grownBy_sortedI _) hB.size (fun j hj => by cases hj; exact hbase)⟩
end Go.Proofs.Ytelheecamghigaa
