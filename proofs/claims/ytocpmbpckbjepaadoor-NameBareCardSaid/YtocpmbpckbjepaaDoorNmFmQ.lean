/- slices.Equal of equal rows of numbers; two rows of two numbers. -/
import Derived.Test.YtocpmbpckbjepaaDoorNmFmM
import Derived.Test.YtocpmbpckbjepaaDoorNmGA
import Derived.Test.YtocpmbpckbjepaaDoorProg
import Derived.WalkKit
import Derived.BigQuiet
namespace Go.Proofs.YtocpmbpckbjepaaDoor
open Go.RowKit
set_option linter.unusedVariables false
set_option linter.unusedSimpArgs false
def cN (n : Nat) : List Value := [.int .i64 (n : Int)]
theorem nC_flat (x : List Nat) : nC x = x.flatMap cN := by
  induction x with
  | nil => rfl
  | cons a x ih => rw [List.flatMap_cons, ← ih]; rfl
theorem row_sl {w : World} {B : Nat} {I : TypeId} {u : Value} {x : List Nat} (h : w.ownsRow B I 1 u x.length (nC x)) : ∃ A c, u = .slice A x.length c ∧ Sl w w.heap.size cN 1 A x.length x := by
  rw [nC_flat] at h
  obtain ⟨A, c, e, hs, _⟩ := sl_of_own (f := cN) (l := x) (fun _ => rfl) rfl h
  exact ⟨A, c, e, hs⟩
set_option maxHeartbeats 2000000 in
theorem Equal_row (A : Option Addr) (n c : Nat) (A' : Option Addr) (c' : Nat) (x : List Nat) (w : World) (hn : n ≤ 100000) (h : Sl w w.heap.size cN 1 A n x) (h' : Sl w w.heap.size cN 1 A' n x) :
    Calls Tryd.prog 11 #[.slice A n c, .slice A' n c'] w fun e w' => e = .returned (.bool true) ∧ Below w.heap.size w w' := by
  have HS := hide h
  have HS' := hide h'
  clear h h'
  go_enter Tryd.func11, Tryd.ntmps11
  go_wp2_with (fail)
  go_loopw [13] (fun i wr => ∃ j : Nat, j ≤ n ∧ i = .int .i64 j ∧ Below w.heap.size w wr) (fun i _ => n - (intOf i).toNat)
  case atStart => exact ⟨0, Nat.zero_le _, rfl, Below.refl _ _⟩
  case round =>
    obtain ⟨j, hj, rfl, hB⟩ := hrel
    have HB := hide hB
    by_cases hlt : j < n
    · obtain ⟨bb, oo, z, rfl, hbb, hx, hc⟩ := (HS.out.below hB).at_ hlt
      obtain ⟨bb', oo', z', rfl, hbb', hx', hc'⟩ := (HS'.out.below hB).at_ hlt
      rw [hx] at hx'
      obtain rfl := Option.some.inj hx'
      have c0 : wr.cell? ⟨bb, oo + j, none⟩ = some (.int .i64 z) := by simpa using hc 0 _ rfl
      have d0 : wr.cell? ⟨bb', oo' + j, none⟩ = some (.int .i64 z) := by simpa using hc' 0 _ rfl
      clear hc hc' hx hx' hB
      go_wp2_with (first | go_quiet (fail))
      go_roundw
      case rel => exact ⟨j + 1, by omega, by go_num, by first | exact HB.out.drew | exact below_drewN HB.out _ | exact HB.out⟩
      case measure => simp [intOf]; omega
    · clear hB
      go_wp2_with (fail)
      go_ret
      exact ⟨rfl, HB.out⟩
theorem two_sl {T I : TypeId} {w : World} {B : Nat} {v : Value} {vs : List Value} (h : Fm T I w B v vs [[0, 1], [2, 3]]) : ∃ a c, v = .slice a 2 c := own_sl h.out
theorem two_rows {T I : TypeId} {w : World} {B : Nat} {va : Option Addr} {vc : Nat} {vs : List Value} (h : Fm T I w B (.slice va 2 vc) vs [[0, 1], [2, 3]]) :
    ∃ g b0 d0 b1 d1, va = some ⟨g, 0, none⟩ ∧ g < w.heap.size ∧ w.cell? ⟨g, 0, none⟩ = some (.slice b0 2 d0) ∧ w.cell? ⟨g, 1, none⟩ = some (.slice b1 2 d1) ∧ Sl w w.heap.size cN 1 b0 2 [0, 1] ∧ Sl w w.heap.size cN 1 b1 2 [2, 3] := by
  obtain ⟨g, cap, cur, hv, _, hb, _⟩ := own_blk h.out (by decide)
  simp only [Value.slice.injEq] at hv
  obtain ⟨rfl, _, rfl⟩ := hv
  have hlen := h.len
  obtain ⟨u0, hu0⟩ : ∃ u, vs[0]? = some u := ⟨_, List.getElem?_eq_getElem (by rw [hlen]; decide)⟩
  obtain ⟨u1, hu1⟩ : ∃ u, vs[1]? = some u := ⟨_, List.getElem?_eq_getElem (by rw [hlen]; decide)⟩
  have c0 := own_cell h.out 0 u0 hu0
  have c1 := own_cell h.out 1 u1 hu1
  obtain ⟨b0, d0, rfl, s0⟩ := row_sl (h.row 0 [0, 1] u0 rfl hu0)
  obtain ⟨b1, d1, rfl, s1⟩ := row_sl (h.row 1 [2, 3] u1 rfl hu1)
  exact ⟨g, b0, d0, b1, d1, rfl, lt_of_block hb, c0, c1, s0, s1⟩
theorem sl_pair (w : World) (a b : Nat) : Sl (w.alloc (.cells #[.int .i64 (a : Int), .int .i64 (b : Int)] 3)) (w.alloc (.cells #[.int .i64 (a : Int), .int .i64 (b : Int)] 3)).heap.size cN 1 (some ⟨w.heap.size, 0, none⟩) 2 [a, b] := by
  have hX := heap_alloc_new w (.cells #[.int .i64 (a : Int), .int .i64 (b : Int)] 3)
  refine ⟨rfl, fun _ => ⟨w.heap.size, 0, rfl, by simp, fun i x hx j v hv => ?_⟩⟩
  have hi := (List.getElem?_eq_some_iff.1 hx).1
  have hj := (List.getElem?_eq_some_iff.1 hv).1
  simp only [cN, List.length_cons, List.length_nil] at hi hj
  obtain rfl : j = 0 := by omega
  have hv : Value.int .i64 (x : Int) = v := by simpa [cN] using hv
  subst hv
  refine (block_cell hX _).trans ?_
  rcases (show i = 0 ∨ i = 1 by omega) with rfl | rfl <;> simp at hx ⊢ <;> omega
end Go.Proofs.YtocpmbpckbjepaaDoor
