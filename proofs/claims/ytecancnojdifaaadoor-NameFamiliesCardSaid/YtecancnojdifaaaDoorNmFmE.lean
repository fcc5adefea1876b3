/- slices.Equal of equal rows of numbers; slices.EqualFunc of equal lists of rows. -/
import Derived.Test.YtecancnojdifaaaDoorNmFmR
import Derived.BigQuiet
namespace Go.Proofs.YtecancnojdifaaaDoor
open Go.RowKit
set_option linter.unusedVariables false
set_option linter.unusedSimpArgs false
def cN (n : Nat) : List Value := [.int .i64 (n : Int)]
theorem nC_flat (x : List Nat) : nC x = x.flatMap cN := by
  induction x with
  | nil => rfl
  | cons a x ih => rw [List.flatMap_cons, ← ih]; rfl
theorem row_sl {w : World} {B : Nat} {I : TypeId} {u : Value} {x : List Nat} (h : w.ownsRow B I 1 u x.length (nC x)) : ∃ A c, u = .slice A x.length c ∧ Sl w w.heap.size cN 1 A x.length x := by
  rw [nC_flat] at h
  obtain ⟨A, c, e, hs, _⟩ := sl_of_own (f := cN) (l := x) (fun _ => rfl) rfl h
  exact ⟨A, c, e, hs⟩
set_option maxHeartbeats 2000000 in
theorem Equal_row (A : Option Addr) (n c : Nat) (A' : Option Addr) (c' : Nat) (x : List Nat) (w : World) (hn : n ≤ 100000) (h : Sl w w.heap.size cN 1 A n x) (h' : Sl w w.heap.size cN 1 A' n x) :
    Calls Tryd.prog 16 #[.slice A n c, .slice A' n c'] w fun e w' => e = .returned (.bool true) ∧ Below w.heap.size w w' := by
  have HS := hide h
  have HS' := hide h'
  clear h h'
  go_enter Tryd.func16, Tryd.ntmps16
  go_wp2_with (fail)
  go_loopw [13] (fun i wr => ∃ j : Nat, j ≤ n ∧ i = .int .i64 j ∧ Below w.heap.size w wr) (fun i _ => n - (intOf i).toNat)
  case atStart => exact ⟨0, Nat.zero_le _, rfl, Below.refl _ _⟩
  case round =>
    obtain ⟨j, hj, rfl, hB⟩ := hrel
    have HB := hide hB
    by_cases hlt : j < n
    · obtain ⟨bb, oo, z, rfl, hbb, hx, hc⟩ := (HS.out.below hB).at_ hlt
      obtain ⟨bb', oo', z', rfl, hbb', hx', hc'⟩ := (HS'.out.below hB).at_ hlt
      rw [hx] at hx'
      obtain rfl := Option.some.inj hx'
      have c0 : wr.cell? ⟨bb, oo + j, none⟩ = some (.int .i64 z) := by simpa using hc 0 _ rfl
      have d0 : wr.cell? ⟨bb', oo' + j, none⟩ = some (.int .i64 z) := by simpa using hc' 0 _ rfl
      clear hc hc' hx hx' hB
      go_wp2_with (first | go_quiet (fail))
      go_roundw
      case rel => exact ⟨j + 1, by omega, by go_num, by first | exact HB.out.drew | exact below_drewN HB.out _ | exact HB.out⟩
      case measure => simp [intOf]; omega
    · clear hB
      go_wp2_with (fail)
      go_ret
      exact ⟨rfl, HB.out⟩
theorem EqualRow_clo (A : Option Addr) (n c : Nat) (A' : Option Addr) (c' : Nat) (x : List Nat) (w : World) (hn : n ≤ 100000) (h : Sl w w.heap.size cN 1 A n x) (h' : Sl w w.heap.size cN 1 A' n x) :
    Calls Tryd.prog 15 #[.slice A n c, .slice A' n c'] w fun e w' => e = .returned (.bool true) ∧ Below w.heap.size w w' := by
  have HC := hide (Equal_row A n c A' c' x w hn h h')
  clear h h'
  go_enter Tryd.func15, Tryd.ntmps15
  go_wp2_with (go_at_call 16; refine HC.out.mono ?_; rintro e w1 ⟨rfl, hw1⟩)
  go_ret
  exact ⟨rfl, hw1⟩
set_option maxHeartbeats 4000000 in
theorem EqualRows (B B' : Nat) (v v' : Value) (vs vs' : List Value) (O : List (List Nat)) (w : World) (hO : O.length ≤ 2000) (hR : ∀ x ∈ O, x.length ≤ 2000) (h : Fm 37 3 w B v vs O) (h' : Fm 37 3 w B' v' vs' O) :
    Calls Tryd.prog 13 #[v, v', .func (.func 15) #[] #[]] w fun e w' => e = .returned (.bool true) ∧ Below w.heap.size w w' := by
  have HF := hide h
  have HF' := hide h'
  have HR := hide hR
  obtain ⟨A, c, rfl⟩ := own_sl h.out
  obtain ⟨A', c', rfl⟩ := own_sl h'.out
  have HE := hide EqualRow_clo
  clear h h' hR
  go_enter Tryd.func13, Tryd.ntmps13
  go_wp2_with (fail)
  go_loopw [17] (fun i wr => ∃ j : Nat, j ≤ O.length ∧ i = .int .i64 j ∧ Below w.heap.size w wr) (fun i _ => O.length - (intOf i).toNat)
  case atStart => exact ⟨0, Nat.zero_le _, rfl, Below.refl _ _⟩
  case round =>
    obtain ⟨j, hj, rfl, hB⟩ := hrel
    have HB := hide hB
    have hz := hB.size
    by_cases hlt : j < O.length
    · have hF := HF.out.below hB
      have hF' := HF'.out.below hB
      obtain ⟨g, cap, cur, hv, _⟩ := own_blk hF.out (by omega)
      obtain ⟨g', cap', cur', hv', _⟩ := own_blk hF'.out (by omega)
      simp only [Value.slice.injEq, true_and] at hv hv'
      obtain ⟨rfl, rfl⟩ := hv
      obtain ⟨rfl, rfl⟩ := hv'
      have hx : O[j]? = some O[j] := List.getElem?_eq_getElem hlt
      obtain ⟨u, hu⟩ : ∃ u, vs[j]? = some u := ⟨_, List.getElem?_eq_getElem (by rw [hF.len]; exact hlt)⟩
      obtain ⟨u', hu'⟩ : ∃ u, vs'[j]? = some u := ⟨_, List.getElem?_eq_getElem (by rw [hF'.len]; exact hlt)⟩
      have c0 := own_cell hF.out j _ hu
      have d0 := own_cell hF'.out j _ hu'
      have hxl := HR.out _ (List.getElem_mem hlt)
      obtain ⟨Q, q, rfl, hs⟩ := row_sl (hF.row j _ u hx hu)
      obtain ⟨Q', q', rfl, hs'⟩ := row_sl (hF'.row j _ u' hx hu')
      obtain ⟨x, hxx⟩ : ∃ x, O[j] = x := ⟨_, rfl⟩
      rw [hxx] at hs hs' hxl c0 d0
      have HC := hide (HE.out Q x.length q Q' q' x wr (by omega) hs hs')
      clear hF hF' hu hu' hx hs hs' hB hxx
      go_wp2_with (go_at_call 15; refine HC.out.mono ?_; rintro e w1 ⟨rfl, hw1⟩; have HB1 := hide (HB.out.trans (hw1.mono hz)); clear hw1)
      go_roundw
      case rel => exact ⟨j + 1, by omega, by go_num, HB1.out⟩
      case measure => simp [intOf]; omega
    · clear hB
      go_wp2_with (fail)
      go_ret
      exact ⟨rfl, HB.out⟩
end Go.Proofs.YtecancnojdifaaaDoor
