/- Walks of check, Check, Types, SymbolError, TypesOf. -/
import Derived.Test.YtocpmbpckbjepaaDoorNmWlk
import Derived.Test.YtocpmbpckbjepaaDoorNmSame
namespace Go.Proofs.YtocpmbpckbjepaaDoor
open Go.RowKit
set_option linter.unusedVariables false
/-- What the check of a symbol answers: its types, its error. -/
def symN (s : Sym) : Nat := if (symE s).1 ≠ 0 then 0 else (symE s).2
theorem symE_bad {s : Sym} {e : Int} {n : Nat} (h : chkName (chkTy 12) s.name 0 = (e, n)) (h0 : e ≠ 0) : symE s = (e, n) := by rw [symE, h, if_pos h0]
theorem symE_good {s : Sym} {n : Nat} (h : chkName (chkTy 12) s.name 0 = (0, n)) : symE s = chkList (chkTy 12) 20 s.takes n := by rw [symE, h, if_neg (by simp)]
set_option maxRecDepth 100000 in
set_option maxHeartbeats 4000000 in
theorem check_any (k : Nat) (s : Sym) (cs : List Value) (w : World) (hin : SymIn w k s cs) :
    Calls Tryd.prog 23 #[.agg cs.toArray] w fun e w' => e = .returned (.tuple #[.int .i64 (symN s : Nat), .int .i64 (symE s).1]) ∧ Below w.heap.size w w' := by
  obtain ⟨A, n, c, A2, n2, c2, rfl, hn, hm, hn2, hm2, hl, hl2⟩ := hin
  have HN := hide (fun W h1 h2 => cName_any 12 k 0 A n c s.name (w.heap.size + 1) w.heap.size 0 W (by decide) (Nat.le_refl _) hn hm h1 (by omega) (by decide) h2)
  have HLI := hide (fun st W h1 h2 h3 => cList_any 12 k st A2 n2 c2 20 s.takes (w.heap.size + 1) w.heap.size 0 W (by decide) (Nat.le_refl _) hn2 hm2 (by decide) h1 (by omega) h2 h3)
  have HX := hide (heap_alloc_new w (.cells #[.slice A n c, .slice A2 n2 c2] 25))
  have hy := heap_alloc_new (w.alloc (.cells #[.slice A n c, .slice A2 n2 c2] 25)) (.cells #[.int .i64 0] 96)
  simp only [World.size_alloc] at hy
  have HY := hide hy
  have HX2 := hide (block_below HX.out ((Below.refl _ _).alloc (Nat.le_refl _) (.cells #[.int .i64 0] 96)))
  have hb : Below w.heap.size w ((w.alloc (.cells #[.slice A n c, .slice A2 n2 c2] 25)).alloc (.cells #[.int .i64 0] 96)) := ((Below.refl _ _).alloc (Nat.le_refl _) _).alloc (by simp) _
  have HPA := hide (parts_below hl hb)
  have HTY := hide (fun (W : World) (h : Below w.heap.size w W) => tys_below hl2 h)
  have HBB := hide hb
  unfold maxLen at hm hm2
  clear hl hl2 hb hy
  obtain ⟨r, hr⟩ : ∃ r, chkName (chkTy 12) s.name 0 = r := ⟨_, rfl⟩
  obtain ⟨e, t⟩ := r
  rw [hr] at HN
  have HR := hide hr
  clear hr
  by_cases h0 : e = 0
  · subst h0
    obtain ⟨r2, hr2⟩ : ∃ r2, chkList (chkTy 12) 20 s.takes t = r2 := ⟨_, rfl⟩
    obtain ⟨e2, t2⟩ := r2
    have HT5 := hide (show t ≤ 500 by have := chkName_le (chkTy_le 12) s.name 0 (by decide) (by rw [HR.out]); rw [HR.out] at this; exact this)
    have HLJ := hide (fun W h1 h3 => hr2 ▸ HLI.out t W h1 HT5.out h3)
    have HE := hide (show symE s = (e2, t2) by rw [symE_good HR.out, hr2])
    clear hr2
    by_cases h2 : e2 = 0
    · subst h2
      have E := hide (show symN s = t2 ∧ (symE s).1 = 0 by rw [symN, HE.out]; exact ⟨by simp, rfl⟩)
      go_enter Tryd.func23, Tryd.ntmps23
      go_wp2_with (first | (go_at_call 44; refine (HN.out _ HPA.out HY.out).mono ?_; rintro r w1 ⟨rfl, hb1, hc1⟩; have HC1 := hide hc1; have HB1 := hide (HBB.out.trans (hb1.be.mono (by omega))); have HX3 := hide (hb1.keep _ _ HX2.out (by omega)); have x1 : w1.cell? ⟨w.heap.size, 1, none⟩ = some (.slice A2 n2 c2) := (block_cell HX3.out 1).trans rfl; clear hb1 hc1) | (go_at_call 45; refine (HLJ.out _ (HTY.out _ HB1.out) HC1.out).mono ?_; rintro r w2 ⟨rfl, hb2, hc2⟩; have HB2 := hide (HB1.out.trans (hb2.be.mono (by omega))); have y0 : w2.cell? ⟨w.heap.size + 1, 0, none⟩ = some (.int .i64 t2) := (block_cell hc2 0).trans rfl; clear hb2 hc2))
      go_ret2
      exact ⟨by rw [E.out.1, E.out.2]; rfl, HB2.out⟩
    · have E := hide (show symN s = 0 ∧ (symE s).1 = e2 by rw [symN, HE.out]; exact ⟨by simp [h2], rfl⟩)
      have h2' : (e2 == 0) = false := by simpa using h2
      go_enter Tryd.func23, Tryd.ntmps23
      go_wp2_with (first | (go_at_call 44; refine (HN.out _ HPA.out HY.out).mono ?_; rintro r w1 ⟨rfl, hb1, hc1⟩; have HC1 := hide hc1; have HB1 := hide (HBB.out.trans (hb1.be.mono (by omega))); have HX3 := hide (hb1.keep _ _ HX2.out (by omega)); have x1 : w1.cell? ⟨w.heap.size, 1, none⟩ = some (.slice A2 n2 c2) := (block_cell HX3.out 1).trans rfl; clear hb1 hc1) | (go_at_call 45; refine (HLJ.out _ (HTY.out _ HB1.out) HC1.out).mono ?_; rintro r w2 ⟨rfl, hb2, hc2⟩; have HB2 := hide (HB1.out.trans (hb2.be.mono (by omega))); clear hb2 hc2))
      go_ret2
      exact ⟨by rw [E.out.1, E.out.2]; rfl, HB2.out⟩
  · have HE := hide (symE_bad HR.out h0)
    have E := hide (show symN s = 0 ∧ (symE s).1 = e by rw [symN, HE.out]; exact ⟨by simp [h0], rfl⟩)
    have h0' : (e == 0) = false := by simpa using h0
    go_enter Tryd.func23, Tryd.ntmps23
    go_wp2_with (go_at_call 44; refine (HN.out _ HPA.out HY.out).mono ?_; rintro r w1 ⟨rfl, hb1, hc1⟩; have HB1 := hide (HBB.out.trans (hb1.be.mono (by omega))); clear hb1 hc1)
    go_ret2
    exact ⟨by rw [E.out.1, E.out.2]; rfl, HB1.out⟩
set_option maxHeartbeats 1000000 in
theorem Check_any (k : Nat) (s : Sym) (cs : List Value) (w : World) (hin : SymIn w k s cs) :
    Calls Tryd.prog 16 #[.agg cs.toArray] w fun e w' => e = .returned (.int .i64 (symE s).1) ∧ Below w.heap.size w w' := by
  have hB : ∀ o, Below w.heap.size w (w.alloc o) := fun o => (Below.refl _ _).alloc (Nat.le_refl _) o
  have HC := hide (fun o => check_any k s cs (w.alloc o) (hin.up (hB o)))
  have HB := hide hB
  obtain ⟨A, n, c, A2, n2, c2, rfl, hn, hm, hn2, hm2, hl, hl2⟩ := hin
  obtain ⟨E, hE⟩ : ∃ E, (symE s).1 = E := ⟨_, rfl⟩
  rw [hE] at HC ⊢
  clear hl hl2 hE hB
  go_enter Tryd.func16, Tryd.ntmps16
  go_wp2_with (go_at_call 23; refine (HC.out _).mono ?_; rintro r w1 ⟨rfl, hw1⟩; have hB1 : Below w.heap.size w w1 := (HB.out _).trans (hw1.mono (by simp)))
  go_ret
  exact ⟨rfl, hB1⟩
set_option maxHeartbeats 1000000 in
theorem Types_any (k : Nat) (s : Sym) (cs : List Value) (w : World) (hin : SymIn w k s cs) :
    Calls Tryd.prog 8 #[.agg cs.toArray] w fun e w' => e = .returned (.tuple #[.int .i64 (symN s : Nat), .int .i64 (symE s).1]) ∧ Below w.heap.size w w' := by
  have hB : ∀ o, Below w.heap.size w (w.alloc o) := fun o => (Below.refl _ _).alloc (Nat.le_refl _) o
  have HC := hide (fun o => check_any k s cs (w.alloc o) (hin.up (hB o)))
  have HB := hide hB
  obtain ⟨A, n, c, A2, n2, c2, rfl, hn, hm, hn2, hm2, hl, hl2⟩ := hin
  obtain ⟨E, hE⟩ : ∃ E, (symE s).1 = E := ⟨_, rfl⟩
  obtain ⟨M, hM⟩ : ∃ M, symN s = M := ⟨_, rfl⟩
  rw [hE, hM] at HC ⊢
  clear hl hl2 hE hB hM
  go_enter Tryd.func8, Tryd.ntmps8
  go_wp2_with (go_at_call 23; refine (HC.out _).mono ?_; rintro r w1 ⟨rfl, hw1⟩; have hB1 : Below w.heap.size w w1 := (HB.out _).trans (hw1.mono (by simp)))
  go_ret2
  exact ⟨rfl, hB1⟩
end Go.Proofs.YtocpmbpckbjepaaDoor
