/- The law NameDemangles. -/
import Derived.Test.YtecancnojdifaaaDoorNmShl
import Derived.Test.YtecancnojdifaaaDoorRows
import Derived.LaidMore
import Derived.Stop.LaidErr
import Derived.MakeChecks
namespace Go.Proofs.YtecancnojdifaaaDoor
open Go.RowKit
set_option linter.unusedVariables false
set_option linter.unusedSimpArgs false
theorem tab_lt {w : World} {name : String} {k : IntKind} {zs : List Int} {g : Nat} (h : Lib.TabIs Tryd.prog w name k zs) (hg : Tryd.prog.globalNamed name = some g) : g < w.heap.size := by
  unfold Lib.TabIs World.var? at h
  rw [hg] at h
  simp only [Option.bind_some] at h
  split at h
  · rename_i cs e fr hb; exact lt_of_block hb
  · cases h
theorem tab10_of {W : World} (hL : laidMetH Tryd.prog Rows.nameDemanglesRow.laid W) : Tab10 W.heap.size W := by
  rw [MakeChecks.laidMetH_plain _ _ _ (by kernel_rfl)] at hL
  have h : Lib.TabIs Tryd.prog W "internal/strconv.uint64pow10" .u64 Lib.pow10Tab :=
    Lib.tabIs_of_head (n := 20) (t := 169) (e := 156) (g := 1) (by kernel_rfl) (by kernel_rfl) (by kernel_rfl) (by kernel_rfl) (by kernel_rfl) (by kernel_rfl) (laidMet.tail (laidMet.tail hL))
  exact ⟨h, fun g hg => tab_lt h hg⟩
theorem Tab10.up {W W' : World} (h : Tab10 W.heap.size W) (hb : Below W.heap.size W W') : Tab10 W'.heap.size W' := ⟨(h.below hb).1, fun g hg => Nat.lt_of_lt_of_le (h.2 g hg) hb.size⟩
theorem same_sym (y : Sym) (k1 k2 : Nat) (cs1 cs2 : List Value) (W : World) (h1 : SymIn W k1 y cs1) (h2 : SymIn W k2 y cs2) :
    Calls Tryd.prog 9 #[.agg cs1.toArray, .agg cs2.toArray] W fun e w' => e = .returned (.bool true) ∧ Below W.heap.size W w' :=
  same_yes (rfl : y = y) ▸ SameSymbol_any (k1 + k2) y y cs1 cs2 W (h1.deep (by omega)) (h2.deep (by omega))
set_option maxHeartbeats 4000000 in
theorem NameDemangles_all (s : ByteArray) (w : World) (hm : s.size ≤ maxLen) (htb : Tab10 w.heap.size w) :
    Calls Tryd.prog 3 #[.string s] w fun e w' => e = .returned (.bool true) ∧ Below w.heap.size w w' := by
  have HD := hide (Demangle_any s w hm htb)
  have HR := hide (fun W => Demangled_any s W hm)
  have HS := hide (same_sym (dmY s))
  have HSH := hide (fun W (h : Below w.heap.size w W) => Short_any s W hm (htb.up h))
  have HSR := hide (fun W => Shorted_any s W hm)
  obtain ⟨E, hE⟩ : ∃ E, dmE s = E := ⟨_, rfl⟩
  obtain ⟨N, hN⟩ : ∃ N, dmN s = N := ⟨_, rfl⟩
  obtain ⟨y, hy⟩ : ∃ y, dmY s = y := ⟨_, rfl⟩
  obtain ⟨r, hr⟩ : ∃ r, shT s = r := ⟨_, rfl⟩
  rw [hE, hN, hy] at HD
  simp only [hE, hN, hy] at HR
  rw [hy] at HS
  simp only [hr] at HSH HSR
  clear hE hN hy hr htb
  unfold maxLen at hm
  go_enter Tryd.func3, Tryd.ntmps3
  go_wp2_with (first | (go_at_call 7; refine HD.out.mono ?_; rintro e w1 ⟨k1, cs1, rfl, hin1, hw1⟩; obtain ⟨A, n, c, A2, n2, c2, rfl, hr1⟩ := id hin1; have HX1 := hide (heap_alloc_new w1 (.cells #[.slice A n c, .slice A2 n2 c2] 25)); have hB1 := hw1.alloc hw1.size (.cells #[.slice A n c, .slice A2 n2 c2] 25); have HI1 := hide (hin1.up ((Below.refl _ _).alloc (Nat.le_refl _) (.cells #[.slice A n c, .slice A2 n2 c2] 25))); clear hw1 hr1 hin1) | (go_at_call 8; refine (HR.out _).mono ?_; rintro e w2 ⟨k2, cs2, rfl, hin2, hw2⟩; obtain ⟨C, m, q, C2, m2, q2, rfl, hr2⟩ := id hin2; have hB2 := (hB1.trans (hw2.mono hB1.size)).alloc (hB1.trans (hw2.mono hB1.size)).size (.cells #[.slice C m q, .slice C2 m2 q2] 25); have hx1 := block_below (block_below HX1.out hw2) ((Below.refl _ _).alloc (Nat.le_refl _) (.cells #[.slice C m q, .slice C2 m2 q2] 25)); have hx2 := heap_alloc_new w2 (.cells #[.slice C m q, .slice C2 m2 q2] 25); have a0 := (block_cell hx1 0).trans rfl; have a1 := (block_cell hx1 1).trans rfl; have HI2 := hide (hin2.up ((Below.refl _ _).alloc (Nat.le_refl _) (.cells #[.slice C m q, .slice C2 m2 q2] 25))); have HI3 := hide ((HI1.out.up hw2).up ((Below.refl _ _).alloc (Nat.le_refl _) (.cells #[.slice C m q, .slice C2 m2 q2] 25))); clear hw2 hr2 hin2 hx1 hx2) | (go_at_call 9; refine (HS.out _ _ _ _ _ HI3.out HI2.out).mono ?_; rintro e w3 ⟨rfl, hw3⟩; have hB3 := hB2.trans (hw3.mono hB2.size); clear hw3) | (go_at_call 10; refine (HSH.out _ hB3).mono ?_; rintro e w4 ⟨rfl, hw4⟩; have hB4 := hB3.trans (hw4.mono hB3.size); clear hw4) | (go_at_call 11; refine (HSR.out _).mono ?_; rintro e w5 ⟨rfl, hw5⟩; have hB5 := hB4.trans (hw5.mono hB4.size); clear hw5))
  go_ret
  exact ⟨rfl, hB5⟩
namespace nameDemangles
theorem walk {W : World} (s : ByteArray) (hs : s.size ≤ reachBytes)
    (hL : laidMetH Tryd.prog Rows.nameDemanglesRow.laid W) :
    Calls Tryd.prog 3 #[.string s] W fun e w' => e = .returned (.bool true) ∧ Below W.heap.size W w' :=
  NameDemangles_all s W (Nat.le_trans hs (by decide)) (tab10_of hL)
end nameDemangles
end Go.Proofs.YtecancnojdifaaaDoor
