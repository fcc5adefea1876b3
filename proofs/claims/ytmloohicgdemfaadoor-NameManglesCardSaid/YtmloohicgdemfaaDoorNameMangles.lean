/- The law NameMangles. -/
import Derived.Test.YtmloohicgdemfaaDoorNmRfM
import Derived.Test.YtmloohicgdemfaaDoorNmMgP
import Derived.Test.YtmloohicgdemfaaDoorNmOpen
import Derived.Test.YtmloohicgdemfaaDoorRows
import Derived.LaidMore
import Derived.Stop.LaidErr
import Derived.MakeChecks
namespace Go.Proofs.YtmloohicgdemfaaDoor
open Go.RowKit
set_option linter.unusedVariables false
set_option linter.unusedSimpArgs false
theorem symE_500 {s : Sym} (h : (symE s).1 = 0) : (symE s).2 ≤ 500 := by
  have h0 := h
  unfold symE at h0
  by_cases h1 : (chkName (chkTy 12) s.name 0).1 = 0
  · rw [if_neg (by simpa using h1)] at h0
    have a := chkName_le (chkTy_le 12) s.name 0 (by decide) h1
    have b := chkList_le (chkTy_le 12) 20 s.takes _ a h0
    have hs : (symE s).2 = (chkList (chkTy 12) 20 s.takes (chkName (chkTy 12) s.name 0).2).2 := by unfold symE; rw [if_neg (by simpa using h1)]
    omega
  · rw [if_pos h1] at h0; exact absurd h0 h1
theorem tab_lt {w : World} {name : String} {k : IntKind} {zs : List Int} {g : Nat} (h : Lib.TabIs Tryd.prog w name k zs) (hg : Tryd.prog.globalNamed name = some g) : g < w.heap.size := by
  unfold Lib.TabIs World.var? at h
  rw [hg] at h
  simp only [Option.bind_some] at h
  split at h
  · rename_i cs e fr hb; exact lt_of_block hb
  · cases h
theorem tab10_of {W : World} (hL : laidMetH Tryd.prog Rows.nameManglesRow.laid W) : Tab10 W.heap.size W := by
  rw [MakeChecks.laidMetH_plain _ _ _ (by kernel_rfl)] at hL
  have h : Lib.TabIs Tryd.prog W "internal/strconv.uint64pow10" .u64 Lib.pow10Tab :=
    Lib.tabIs_of_head (n := 20) (t := 98) (e := 89) (g := 0) (by kernel_rfl) (by kernel_rfl) (by kernel_rfl) (by kernel_rfl) (by kernel_rfl) (by kernel_rfl) (laidMet.tail (laidMet.tail hL))
  exact ⟨h, fun g hg => tab_lt h hg⟩
set_option maxHeartbeats 4000000 in
theorem NameMangles_all (k : Nat) (s : Sym) (cs : List Value) (w : World) (hin : SymIn w k s cs) (htb : Tab10 w.heap.size w) :
    Calls Tryd.prog 3 #[.agg cs.toArray] w fun e w' => e = .returned (.bool true) ∧ Below w.heap.size w w' := by
  have HIN := hide hin
  have HA := hide (fun ob : Obj => show Below w.heap.size w (w.alloc ob) from (Below.refl _ _).alloc (Nat.le_refl _) ob)
  by_cases h0 : (symE s).1 = 0
  · have h5 := symE_500 h0
    have HSE := hide (fun W h => h0 ▸ SymbolError_any k s cs W h)
    have HPD := hide (fun W h => Mangled_any k s cs W h h0 h5)
    have HPR := hide (fun ob : Obj => Mangle_ok k s cs (w.alloc ob) (hin.up (HA.out ob)) h0 h5 ⟨(htb.below (HA.out ob)).1, fun g hg => Nat.lt_of_lt_of_le (htb.2 g hg) (HA.out ob).size⟩)
    unfold mgRes at HPR
    obtain ⟨RB, hRB⟩ : ∃ RB : ByteArray, ⟨(mgSym s).toArray⟩ = RB := ⟨_, rfl⟩
    have hsz : (mgSym s).length = RB.size := by rw [← hRB]; rfl
    rw [hRB] at HPD
    rw [hsz] at HPR
    obtain ⟨A, n, c, A2, n2, c2, rfl, hn, hm, hn2, hm2, hl, hl2⟩ := hin
    have HX := hide (heap_alloc_new w (.cells #[.slice A n c, .slice A2 n2 c2] 25))
    clear hl hl2 h0 hsz htb
    by_cases hbig : 8000 < RB.size
    · rw [if_pos hbig] at HPR
      have hbi : (8000 : Int) < (RB.size : Int) := by omega
      clear hRB
      go_enter Tryd.func3, Tryd.ntmps3
      go_wp2_with (first | (go_at_call 4; refine (HPR.out _).mono ?_; rintro e w2 ⟨rfl, hw2⟩; have hB2 := (HA.out _).trans (hw2.mono (by simp)); have x0 : w2.cell? ⟨w.heap.size, 0, none⟩ = some (.slice A n c) := (block_cell (block_below HX.out hw2) 0).trans rfl; have x1 : w2.cell? ⟨w.heap.size, 1, none⟩ = some (.slice A2 n2 c2) := (block_cell (block_below HX.out hw2) 1).trans rfl; have HX2 := hide (block_below HX.out hw2); clear hw2 HPR) | (go_at_call 5; refine (HSE.out _ (HIN.out.up hB2)).mono ?_; rintro e w3 ⟨rfl, hw3⟩; have hB3 := hB2.trans (hw3.mono hB2.size); have y0 : w3.cell? ⟨w.heap.size, 0, none⟩ = some (.slice A n c) := (block_cell (block_below HX2.out hw3) 0).trans rfl; have y1 : w3.cell? ⟨w.heap.size, 1, none⟩ = some (.slice A2 n2 c2) := (block_cell (block_below HX2.out hw3) 1).trans rfl; clear hw3) | (go_at_call 6; refine (HPD.out _ (HIN.out.up hB3)).mono ?_; rintro e w4 ⟨rfl, hw4⟩; have hB4 := hB3.trans (hw4.mono hB3.size); clear hw4))
      go_ret
      exact ⟨rfl, hB4⟩
    · rw [if_neg hbig] at HPR
      have hbi : ¬ (8000 : Int) < (RB.size : Int) := by omega
      have hbi2 : decide ((8000 : Int) < (RB.size : Int)) = false := by simp; omega
      have hbi3 : decide (8000 < RB.size) = false := by simp; omega
      rw [show (⟨(mgSym s, (0 : Int)).1.toArray⟩ : ByteArray) = RB from hRB] at HPR
      clear hRB
      go_enter Tryd.func3, Tryd.ntmps3
      go_wp2_with (first | (go_at_call 4; refine (HPR.out _).mono ?_; rintro e w2 ⟨rfl, hw2⟩; have hB2 := (HA.out _).trans (hw2.mono (by simp)); have x0 : w2.cell? ⟨w.heap.size, 0, none⟩ = some (.slice A n c) := (block_cell (block_below HX.out hw2) 0).trans rfl; have x1 : w2.cell? ⟨w.heap.size, 1, none⟩ = some (.slice A2 n2 c2) := (block_cell (block_below HX.out hw2) 1).trans rfl; have HX2 := hide (block_below HX.out hw2); clear hw2 HPR) | (go_at_call 5; refine (HSE.out _ (HIN.out.up hB2)).mono ?_; rintro e w3 ⟨rfl, hw3⟩; have hB3 := hB2.trans (hw3.mono hB2.size); have y0 : w3.cell? ⟨w.heap.size, 0, none⟩ = some (.slice A n c) := (block_cell (block_below HX2.out hw3) 0).trans rfl; have y1 : w3.cell? ⟨w.heap.size, 1, none⟩ = some (.slice A2 n2 c2) := (block_cell (block_below HX2.out hw3) 1).trans rfl; clear hw3) | (go_at_call 6; refine (HPD.out _ (HIN.out.up hB3)).mono ?_; rintro e w4 ⟨rfl, hw4⟩; have hB4 := hB3.trans (hw4.mono hB3.size); clear hw4))
      go_ret
      exact ⟨rfl, hB4⟩
  · have HPR := hide (fun ob : Obj => Mangle_bad k s cs (w.alloc ob) (hin.up (HA.out ob)) h0)
    have HSE := hide (fun W h => SymbolError_any k s cs W h)
    obtain ⟨E, hE⟩ : ∃ E, (symE s).1 = E := ⟨_, rfl⟩
    rw [hE] at h0 HPR HSE
    have h0' : (E == 0) = false := by simpa using h0
    obtain ⟨A, n, c, A2, n2, c2, rfl, hn, hm, hn2, hm2, hl, hl2⟩ := hin
    have HX := hide (heap_alloc_new w (.cells #[.slice A n c, .slice A2 n2 c2] 25))
    clear hl hl2 hE htb
    go_enter Tryd.func3, Tryd.ntmps3
    go_wp2_with (first | (go_at_call 4; refine (HPR.out _).mono ?_; rintro e w2 ⟨rfl, hw2⟩; have hB2 := (HA.out _).trans (hw2.mono (by simp)); have x0 : w2.cell? ⟨w.heap.size, 0, none⟩ = some (.slice A n c) := (block_cell (block_below HX.out hw2) 0).trans rfl; have x1 : w2.cell? ⟨w.heap.size, 1, none⟩ = some (.slice A2 n2 c2) := (block_cell (block_below HX.out hw2) 1).trans rfl; have HX2 := hide (block_below HX.out hw2); clear hw2 HPR) | (go_at_call 5; refine (HSE.out _ (HIN.out.up hB2)).mono ?_; rintro e w3 ⟨rfl, hw3⟩; have hB3 := hB2.trans (hw3.mono hB2.size); have y0 : w3.cell? ⟨w.heap.size, 0, none⟩ = some (.slice A n c) := (block_cell (block_below HX2.out hw3) 0).trans rfl; have y1 : w3.cell? ⟨w.heap.size, 1, none⟩ = some (.slice A2 n2 c2) := (block_cell (block_below HX2.out hw3) 1).trans rfl; clear hw3))
    go_ret
    exact ⟨rfl, hB3⟩
namespace nameMangles
set_option maxRecDepth 100000 in
theorem walk {H : Type} {enc : TypeId × Value → H} {d0 : DataW H} {p0 : List MemPlace} {base : Nat} {W : World}
    (v0 : Value) (k0 : DataW.Trod enc Tryd.prog W 0 (fun _ => true) true 25 v0 d0 p0) (ok0 : Value.okWide Tryd.prog W .any base 25 v0)
    (hL : laidMetH Tryd.prog Rows.nameManglesRow.laid W) :
    Calls Tryd.prog 3 #[v0] W fun e w' => e = .returned (.bool true) ∧ Below W.heap.size W w' := by
  obtain ⟨ka, a, ca, rfl, ha⟩ := open_sym ok0 k0
  exact NameMangles_all _ a ca W ha (tab10_of hL)
end nameMangles
end Go.Proofs.YtmloohicgdemfaaDoor
