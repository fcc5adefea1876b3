/- The law GroupReads: ReadRules reads what the reference reads, whatever the string. -/
import Derived.Test.YtomihkflhhhpjaaDoorGuRx
import Derived.Test.YtomihkflhhhpjaaDoorGuSm
import Derived.Test.YtomihkflhhhpjaaDoorTabS
import Derived.Test.YtomihkflhhhpjaaDoorRows
import Derived.LaidMore
import Derived.Stop.LaidErr
import Derived.MakeChecks
import Derived.Shelf.Vars
namespace Go.Proofs.YtomihkflhhhpjaaDoor
open Go.RowKit
set_option linter.unusedVariables false
set_option linter.unusedSimpArgs false
theorem mx_of {W : World} (h : W.ShapedOpen Tryd.prog) : Mx W :=
  Go.Proofs.cell_of_shapedOpen_int (zero := #[.int .i64 0]) (t := 3) h (of_decide_eq_true (by kernel_rfl)) (by kernel_rfl) rfl (by kernel_rfl) (by kernel_rfl) Tryd.underlying3
theorem tab_of {name : String} {g : Nat} {V : Nat → List UInt8} {w : World} (h : w.var? Tryd.prog name = some (((List.range 7).map V).map fun z => Value.string (strOf z)).toArray) (hg : Tryd.prog.globalNamed name = some g) : Tab g V w := by
  refine ⟨(varS_cell h hg 0).1, fun i hi => ?_⟩
  rw [(varS_cell h hg i).2]
  change _ = some (Value.string (strOf (V i)))
  have : (((List.range 7).map V).map fun z => Value.string (strOf z))[i]? = some (.string (strOf (V i))) := by
    simp [hi]
  simpa using this
theorem tabs_of {W : World} (hL : laidMetH Tryd.prog Rows.groupReadsRow.laid W) : Tab 0 wM W ∧ Tab 1 wA W := by
  rw [MakeChecks.laidMetH_plain _ _ _ (by kernel_rfl)] at hL
  have hM := tabS_of_head (zs := (List.range 7).map wM) (g := 0) (n := 7) (t := 97) (e := 9) (by kernel_rfl) (by kernel_rfl) (by kernel_rfl) (by kernel_rfl) (by kernel_rfl) (by kernel_rfl) (laidMet.tail (laidMet.tail (laidMet.tail (laidMet.tail (laidMet.tail (laidMet.tail hL))))))
  have hA := tabS_of_head (zs := (List.range 7).map wA) (g := 1) (n := 7) (t := 97) (e := 9) (by kernel_rfl) (by kernel_rfl) (by kernel_rfl) (by kernel_rfl) (by kernel_rfl) (by kernel_rfl) (laidMet.tail (laidMet.tail (laidMet.tail (laidMet.tail (laidMet.tail (laidMet.tail (laidMet.tail hL)))))))
  exact ⟨tab_of hM (by kernel_rfl), tab_of hA (by kernel_rfl)⟩
set_option maxRecDepth 100000 in
set_option maxHeartbeats 4000000 in
theorem GroupReads_any {t : ByteArray} {w : World} (hT1 : Tab 0 wM w) (hT2 : Tab 1 wA w) (hM : Mx w) (ht : t.size ≤ reachBytes) :
    Calls Tryd.prog 3 #[.string t] w fun e w' => e = .returned (.bool true) ∧ Below w.heap.size w w' := by
  have C1 := hide (ReadRules_any (t := t) hT1 hT2 hM)
  have C2 := hide (fun W (hb : Below w.heap.size w W) => RulesRead_any (t := t) (w := W) (hM.up hb (Nat.le_refl _)))
  have HSM : Hid (∀ t : ByteArray, 1000000 < t.size → rdRules t = .error (0, 4)) := hide fun t h => by rw [rdRules, if_pos h]
  clear hT1 hT2 hM
  go_enter Tryd.func3, Tryd.ntmps3
  go_wp2_with (fail)
  refine C1.out.mono ?_
  rintro e1 w1 ⟨hb1, h1⟩
  cases hr : rdRules t with
  | error x =>
    obtain ⟨n, no⟩ := x
    rw [hr] at h1
    obtain rfl : e1 = .returned (.tuple #[.slice none 0 0, .int .i64 (n : Nat), .int .i64 no]) := h1
    have HB1 := hide hb1
    have C3 := hide (C2.out w1 hb1)
    clear hb1 C1 C2
    go_wp2_with (fail)
    refine C3.out.mono ?_
    rintro e2 w2 ⟨hb2, h2⟩
    rw [hr] at h2
    obtain rfl : e2 = .returned (.tuple #[.slice none 0 0, .int .i64 (n : Nat), .int .i64 no]) := h2
    have HB2 := hide (HB1.out.trans (hb2.mono HB1.out.size))
    have CS := hide (fun W => sameRules_any none none 0 0 0 [] [] W (by omega) (Sl.nil _ _ _ _ _) (Sl.nil _ _ _ _ _) (fun x hx => by cases hx) (fun x hx => by cases hx) rfl)
    clear hb2 hr
    go_wp2_with (go_at_call 7; refine (CS.out _).mono ?_; rintro e w3 ⟨rfl, hw3⟩; have HB3 := hide (HB2.out.trans (hw3.mono HB2.out.size)); clear hw3)
    go_ret
    exact ⟨rfl, HB3.out⟩
  | ok l =>
    have hts : t.size ≤ 1000000 := by
      by_cases h : 1000000 < t.size
      · rw [HSM.out t h] at hr; cases hr
      · omega
    rw [hr] at h1
    obtain ⟨A, c, xs, rfl, hs1, hk1, hp1, hl1⟩ := h1
    have HB1 := hide hb1
    have HS1 := hide hs1
    have HK1 := hide hk1
    have C3 := hide (C2.out w1 hb1)
    clear hb1 hs1 hk1 C1 C2
    go_wp2_with (fail)
    refine C3.out.mono ?_
    rintro e2 w2 ⟨hb2, h2⟩
    rw [hr] at h2
    obtain ⟨A', c', ys, rfl, hs2, hk2, hp2, hl2⟩ := h2
    have HB2 := hide (HB1.out.trans (hb2.mono HB1.out.size))
    have hlen : ys.length = xs.length := by
      have := congrArg List.length (hp1.trans hp2.symm)
      simpa using this.symm
    rw [hlen] at hs2 ⊢
    have CS := hide (sameRules_any A A' xs.length c c' xs ys w2 (by omega) (HS1.out.up hb2) hs2 (HK1.out.up hb2) hk2 (hp1.trans hp2.symm))
    clear hb2 hr hs2 hk2 hp1 hp2 hlen
    go_wp2_with (go_at_call 7; refine CS.out.mono ?_; rintro e w3 ⟨rfl, hw3⟩; have HB3 := hide (HB2.out.trans (hw3.mono HB2.out.size)); clear hw3)
    go_ret
    exact ⟨rfl, HB3.out⟩
namespace groupReads
theorem walk (a0 : ByteArray) (w0 : a0.size ≤ reachBytes) {W : World} (hL : laidMetH Tryd.prog Rows.groupReadsRow.laid W) (hSO : W.ShapedOpen Tryd.prog) :
    Calls Tryd.prog 3 #[.string a0] W fun e w' => e = .returned (.bool true) ∧ Below W.heap.size W w' := by
  obtain ⟨h1, h2⟩ := tabs_of hL
  exact GroupReads_any h1 h2 (mx_of hSO) w0
end groupReads
end Go.Proofs.YtomihkflhhhpjaaDoor
