/- The law StackWrites. -/
import Derived.Test.YtnlliddfljogjaaDoorStWtP
import Derived.Test.YtnlliddfljogjaaDoorStWtO
import Derived.Test.YtnlliddfljogjaaDoorStWtI
import Derived.Test.YtnlliddfljogjaaDoorStOpen2
import Derived.Test.YtnlliddfljogjaaDoorRows
import Derived.LaidMore
import Derived.Stop.LaidErr
import Derived.MakeChecks
namespace Go.Proofs.YtnlliddfljogjaaDoor
open Go.RowKit
set_option linter.unusedVariables false
set_option linter.unusedSectionVars false
theorem tab_lt {w : World} {name : String} {k : IntKind} {zs : List Int} {g : Nat} (h : Lib.TabIs Tryd.prog w name k zs) (hg : Tryd.prog.globalNamed name = some g) : g < w.heap.size := by
  unfold Lib.TabIs World.var? at h
  rw [hg] at h
  simp only [Option.bind_some] at h
  split at h
  · rename_i cs e fr hb; exact lt_of_block hb
  · cases h
theorem tab_cell {w : World} {name : String} {k : IntKind} {zs : List Int} {g : Nat} (h : Lib.TabIs Tryd.prog w name k zs) (hg : Tryd.prog.globalNamed name = some g) (i : Nat) : w.cell? ⟨g, i, none⟩ = (zs.map fun z => Value.int k z)[i]? := by
  unfold Lib.TabIs World.var? at h
  rw [hg] at h
  simp only [Option.bind_some] at h
  split at h
  · rename_i cs e fr hb
    rw [block_cell hb, Option.some.inj h]
    simp
  · cases h
theorem tabs_of {W : World} (hL : laidMetH Tryd.prog Rows.stackWritesRow.laid W) : TabsB W.heap.size W := by
  rw [MakeChecks.laidMetH_plain _ _ _ (by kernel_rfl)] at hL
  have h1 : Lib.TabIs Tryd.prog W "math/bits.deBruijn64tab" .u8 [0, 1, 56, 2, 57, 49, 28, 3, 61, 58, 42, 50, 38, 29, 17, 4, 62, 47, 59, 36, 45, 43, 51, 22, 53, 39, 33, 30, 24, 18, 12, 5, 63, 55, 48, 27, 60, 41, 37, 16, 46, 35, 44, 21, 52, 32, 23, 11, 54, 26, 40, 15, 34, 20, 31, 10, 25, 14, 19, 9, 13, 8, 7, 6] :=
    Lib.tabIs_of_head (g := 3) (n := 64) (t := 86) (e := 5) (by kernel_rfl) (by kernel_rfl) (by kernel_rfl) (by kernel_rfl) (by kernel_rfl) (by kernel_rfl) (laidMet.tail hL)
  obtain ⟨g, hg⟩ : ∃ g, Tryd.prog.globalNamed "internal/strconv.uint64pow10" = some g := Option.isSome_iff_exists.1 (by kernel_rfl)
  have h2 : Lib.TabIs Tryd.prog W "internal/strconv.uint64pow10" .u64 Lib.pow10Tab :=
    Lib.tabIs_of_head (n := 20) (t := 80) (e := 74) (g := 1) (by kernel_rfl) (by kernel_rfl) (by kernel_rfl) (by kernel_rfl) (by kernel_rfl) (by kernel_rfl) (laidMet.tail (laidMet.tail hL))
  have hg3 : Tryd.prog.globalNamed "math/bits.deBruijn64tab" = some 3 := by kernel_rfl
  have h3 := tab_lt h1 hg3
  refine ⟨⟨h2, (tab_cell h1 hg3 15).trans rfl, h3⟩, h3, fun g hg => tab_lt h2 hg⟩
theorem FaultsError_w {A : Option Addr} {n cap : Nat} {l : List FaultT} {v : Int} (hv : fltsErr l = v) (W : World) (hn : n ≤ maxLen) (hl : Sl W W.heap.size FaultT.cs 3 A n l) (hf : FaultsOk W l) :
    Calls Tryd.prog 5 #[.slice A n cap] W fun e w' => e = .returned (.int .i64 v) ∧ Below W.heap.size W w' := by subst hv; exact FaultsError_any A n cap l W hn hl hf
theorem Written_any (A : Option Addr) (n c : Nat) (l : List FaultT) (form : Int) (w : World) (hnc : n ≤ c) (hl : Sl w w.heap.size FaultT.cs 3 A n l) (hf : FaultsOk w l) (hE : fltsErr l = 0) (hform : form = 1 ∨ form = 2 ∨ form = 3) :
    Calls Tryd.prog 6 #[.slice A n c, .int .i64 form] w fun e w' => e = .returned (if banged l then .tuple #[.string ⟨#[]⟩, .bool false] else .tuple #[.string ⟨(writtenL l form).toArray⟩, .bool true]) ∧ Below w.heap.size w w' := by
  rcases hform with rfl | rfl | rfl
  · exact Written_inner A n c l w hnc hl hf hE
  · exact Written_outer A n c l w hnc hl hf hE
  · exact Written_pairs A n c l w hnc hl hf hE
section
variable (A : Option Addr) (n c : Nat) (l : List FaultT) (form : Int) (w : World) (hnc : n ≤ c) (hn : n ≤ maxLen) (hl : Sl w w.heap.size FaultT.cs 3 A n l) (hf : FaultsOk w l)
include hnc hn hl hf
set_option maxHeartbeats 1000000 in
theorem StackWrites_err (h0 : fltsErr l ≠ 0) : Calls Tryd.prog 3 #[.slice A n c, .int .i64 form] w fun e w' => e = .returned (.bool true) ∧ Below w.heap.size w w' := by
  obtain ⟨E, hE⟩ : ∃ E, fltsErr l = E := ⟨_, rfl⟩
  rw [hE] at h0
  have HW := hide (Write_err A n c l form w E hE h0 hn hl hf)
  have HF := hide (fun W h1 h2 => FaultsError_w (A := A) (n := n) (cap := c) hE W hn h1 h2)
  have h0' : (E == 0) = false := by simpa using h0
  clear hE hn
  go_enter Tryd.func3, Tryd.ntmps3
  go_wp2_with (first | (go_at_call 4; refine HW.out.mono ?_; rintro r w1 ⟨rfl, hB1⟩) | (go_at_call 5; refine (HF.out _ (hl.up hB1) (hf.up hB1)).mono ?_; rintro r w2 ⟨rfl, hw2⟩; have hB2 := hB1.trans (hw2.mono hB1.size)))
  go_ret
  exact ⟨rfl, hB2⟩
set_option maxHeartbeats 1000000 in
theorem StackWrites_kind (hE : fltsErr l = 0) (ho : outsideB form 1 3 = true) : Calls Tryd.prog 3 #[.slice A n c, .int .i64 form] w fun e w' => e = .returned (.bool true) ∧ Below w.heap.size w w' := by
  have HW := hide (Write_kind A n c l form w hE ho hn hl hf)
  have HF := hide (fun W h1 h2 => FaultsError_w (A := A) (n := n) (cap := c) hE W hn h1 h2)
  simp only [outsideB, Bool.or_eq_true, decide_eq_true_eq] at ho
  clear hE hn
  by_cases h1 : form < 1
  · clear ho
    go_enter Tryd.func3, Tryd.ntmps3
    go_wp2_with (first | (go_at_call 4; refine HW.out.mono ?_; rintro r w1 ⟨rfl, hB1⟩) | (go_at_call 5; refine (HF.out _ (hl.up hB1) (hf.up hB1)).mono ?_; rintro r w2 ⟨rfl, hw2⟩; have hB2 := hB1.trans (hw2.mono hB1.size)))
    go_ret
    exact ⟨rfl, hB2⟩
  · have h3 : 3 < form := ho.resolve_left h1
    have h1' : decide (form < 1) = false := by simpa using h1
    clear ho
    go_enter Tryd.func3, Tryd.ntmps3
    go_wp2_with (first | (go_at_call 4; refine HW.out.mono ?_; rintro r w1 ⟨rfl, hB1⟩) | (go_at_call 5; refine (HF.out _ (hl.up hB1) (hf.up hB1)).mono ?_; rintro r w2 ⟨rfl, hw2⟩; have hB2 := hB1.trans (hw2.mono hB1.size)))
    go_ret
    exact ⟨rfl, hB2⟩
set_option maxHeartbeats 4000000 in
theorem StackWrites_good (hE : fltsErr l = 0) (hform : form = 1 ∨ form = 2 ∨ form = 3) (ht : TabsB w.heap.size w) : Calls Tryd.prog 3 #[.slice A n c, .int .i64 form] w fun e w' => e = .returned (.bool true) ∧ Below w.heap.size w w' := by
  have HW := hide (Write_good A n c l form w hnc hl hf hE hform ht)
  have HF := hide (fun W h1 h2 => FaultsError_w (A := A) (n := n) (cap := c) hE W hn h1 h2)
  have HT := hide (fun W h1 h2 => Written_any A n c l form W hnc h1 h2 hE hform)
  have f1 : ¬ form < 1 := by omega
  have f1' : decide (form < 1) = false := by simp; omega
  have f3 : ¬ 3 < form := by omega
  have f3' : decide (3 < form) = false := by simp; omega
  clear hE hform hn
  cases hbg : banged l
  · obtain ⟨RB, hRB⟩ : ∃ RB : ByteArray, ⟨(writtenL l form).toArray⟩ = RB := ⟨_, rfl⟩
    have hsz : (writtenL l form).length = RB.size := by rw [← hRB, size_of (l := writtenL l form) rfl]
    rw [hbg, if_neg (by decide), hRB] at HT
    by_cases hbig : 1000000 < RB.size
    · have hwr : writeR l form = ([], 4) := by rw [writeR, if_neg (by rw [hbg]; decide), if_pos (by omega)]
      rw [hwr] at HW
      have HW : Hid (Calls Tryd.prog 4 #[.slice A n c, .int .i64 form] w fun e w' => e = .returned (.tuple #[.string ⟨#[]⟩, .int .i64 4]) ∧ Below w.heap.size w w') := HW
      have hbi : (1000000 : Int) < (RB.size : Int) := by omega
      clear hwr hsz hRB hbg
      go_enter Tryd.func3, Tryd.ntmps3
      go_wp2_with (first | (go_at_call 4; refine HW.out.mono ?_; rintro r w1 ⟨rfl, hB1⟩) | (go_at_call 5; refine (HF.out _ (hl.up hB1) (hf.up hB1)).mono ?_; rintro r w2 ⟨rfl, hw2⟩; have hB2 := hB1.trans (hw2.mono hB1.size)) | (go_at_call 6; refine (HT.out _ (hl.up hB2) (hf.up hB2)).mono ?_; rintro r w3 ⟨rfl, hw3⟩; have hB3 := hB2.trans (hw3.mono hB2.size)))
      go_ret
      exact ⟨rfl, hB3⟩
    · have hwr : writeR l form = (writtenL l form, 0) := by rw [writeR, if_neg (by rw [hbg]; decide), if_neg (by omega)]
      rw [hwr] at HW
      simp only [] at HW
      rw [hRB] at HW
      have hbi : ¬ (1000000 : Int) < (RB.size : Int) := by omega
      have hbi' : decide ((1000000 : Int) < (RB.size : Int)) = false := by simp; omega
      have hbi2 : decide (1000000 < RB.size) = false := by simp; omega
      clear hwr hsz hRB hbg
      go_enter Tryd.func3, Tryd.ntmps3
      go_wp2_with (first | (go_at_call 4; refine HW.out.mono ?_; rintro r w1 ⟨rfl, hB1⟩) | (go_at_call 5; refine (HF.out _ (hl.up hB1) (hf.up hB1)).mono ?_; rintro r w2 ⟨rfl, hw2⟩; have hB2 := hB1.trans (hw2.mono hB1.size)) | (go_at_call 6; refine (HT.out _ (hl.up hB2) (hf.up hB2)).mono ?_; rintro r w3 ⟨rfl, hw3⟩; have hB3 := hB2.trans (hw3.mono hB2.size)))
      go_ret
      exact ⟨rfl, hB3⟩
  · have hwr : writeR l form = ([], 9) := by rw [writeR, if_pos hbg]
    rw [hwr] at HW
    have HW : Hid (Calls Tryd.prog 4 #[.slice A n c, .int .i64 form] w fun e w' => e = .returned (.tuple #[.string ⟨#[]⟩, .int .i64 9]) ∧ Below w.heap.size w w') := HW
    rw [hbg, if_pos rfl] at HT
    clear hwr hbg
    go_enter Tryd.func3, Tryd.ntmps3
    go_wp2_with (first | (go_at_call 4; refine HW.out.mono ?_; rintro r w1 ⟨rfl, hB1⟩) | (go_at_call 5; refine (HF.out _ (hl.up hB1) (hf.up hB1)).mono ?_; rintro r w2 ⟨rfl, hw2⟩; have hB2 := hB1.trans (hw2.mono hB1.size)) | (go_at_call 6; refine (HT.out _ (hl.up hB2) (hf.up hB2)).mono ?_; rintro r w3 ⟨rfl, hw3⟩; have hB3 := hB2.trans (hw3.mono hB2.size)))
    go_ret
    exact ⟨rfl, hB3⟩
end
namespace stackWrites
theorem walk {H : Type} {enc : TypeId × Value → H} {d0 : DataW H} {p0 : List MemPlace} {base : Nat} {W : World}
    (v0 : Value) (k0 : DataW.Trod enc Tryd.prog W 0 (fun _ => true) true 22 v0 d0 p0) (ok0 : Value.okWide Tryd.prog W .any base 22 v0)
    (z0 : ∀ el sp, d0 = .slice el sp → (el.length + sp.length) * Tryd.prog.bytesOf 33 ≤ reachBytes)
    (a1 : Int) (w1 : (Lit.int .i64 a1).wf = true) (hL : laidMetH Tryd.prog Rows.stackWritesRow.laid W) :
    Calls Tryd.prog 3 #[v0, .int .i64 a1] W fun e w' => e = .returned (.bool true) ∧ Below W.heap.size W w' := by
  obtain ⟨A, n, c, l, rfl, h, hnc, hcm, ho⟩ := open_faults ok0 k0
  have ht := tabs_of hL
  by_cases hE : fltsErr l = 0
  · cases hob : outsideB a1 1 3
    · have hform : a1 = 1 ∨ a1 = 2 ∨ a1 = 3 := by
        simp only [outsideB, Bool.or_eq_false_iff, decide_eq_false_iff_not] at hob
        omega
      exact StackWrites_good A n c l a1 W hnc (Nat.le_trans hnc hcm) h ho hE hform ht
    · exact StackWrites_kind A n c l a1 W hnc (Nat.le_trans hnc hcm) h ho hE hob
  · exact StackWrites_err A n c l a1 W hnc (Nat.le_trans hnc hcm) h ho hE
end stackWrites
end Go.Proofs.YtnlliddfljogjaaDoor
