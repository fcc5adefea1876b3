/- Walk of again of the program's reader of mangled names (printed by gen_df.py). -/
import Derived.Test.YtocpmbpckbjepaaDoorNmDmG
import Derived.Test.YtocpmbpckbjepaaDoorNmDmH
namespace Go.Proofs.YtocpmbpckbjepaaDoor
open Go.RowKit
set_option linter.unusedVariables false
set_option linter.unusedSimpArgs false
theorem dAgain_num {s : ByteArray} {D : List Nd} {i e : Nat} (h : dNum s (i + 1) = .bad e) : dAgain s D i = .bad e := by rw [dAgain, h]; rfl
theorem dAgain_sep {s : ByteArray} {D : List Nd} {i j n : Nat} (h : dNum s (i + 1) = .ok j n) (h2 : ¬ s.data.toList[j]? = some 95) : dAgain s D i = .bad j := by rw [dAgain, h, Res.bind, if_neg h2]
theorem dAgain_no {s : ByteArray} {D : List Nd} {i j n : Nat} (h : dNum s (i + 1) = .ok j n) (h2 : s.data.toList[j]? = some 95) (h3 : D[n]? = none) : dAgain s D i = .bad i := by rw [dAgain, h, Res.bind, if_pos h2, dPick, h3]
theorem dAgain_ok {s : ByteArray} {D : List Nd} {i j n : Nat} {x : Nd} (h : dNum s (i + 1) = .ok j n) (h2 : s.data.toList[j]? = some 95) (h3 : D[n]? = some x) : dAgain s D i = .ok (j + 1) (n, x.2, D) := by rw [dAgain, h, Res.bind, if_pos h2, dPick, h3]
/-- The zero of a node. -/
abbrev node0 : Obj := .cells #[.int .i64 0, .int .i64 0, .slice none 0 0, .slice none 0 0] 77

def nAgainOk (s : ByteArray) : Prop := ∀ (B c mb : Nat) (D : List Nd) (F : Nat → Prop) (i : Nat) (w : World), B ≤ w.heap.size → s.size ≤ 8000 → s.data.toList[i]? = some 83 → nS B c mb s i (-1) D F w →
  Calls Tryd.prog 48 #[.pointer (some ⟨c, 0, none⟩)] w fun e w' => RP (dAgain s D i)
    (fun e0 => e = .returned (.agg #[.int .i64 0, .int .i64 0, .slice none 0 0, .slice none 0 0]) ∧ ∃ j : Nat, j ≤ s.size + 1 ∧ nR B c mb s j e0 D F F w w')
    (fun j x => ∃ (k : Int) (A : Option Addr) (n q : Nat) (A' : Option Addr) (n' q' : Nat), e = .returned (.agg #[.int .i64 x.1, .int .i64 k, .slice A n q, .slice A' n' q']) ∧ TyU w' F x.2.1 [.int .i64 k, .slice A n q, .slice A' n' q'] ∧ x.2.2 = D ∧ nR B c mb s j (-1) D F F w w')
set_option maxRecDepth 100000 in
set_option maxHeartbeats 16000000 in
theorem nAgain_any (s : ByteArray) : nAgainOk s := by
  intro B c mb D F i w hB hs h83 h
  have hi := get_lt h83
  have HRA := hide ((nR.refl h).alloc hB (.cells #[.int .i64 0, .int .i64 0, .slice none 0 0, .slice none 0 0] 77))
  have HBA := hide (nBk.new h (.cells #[.int .i64 0, .int .i64 0, .slice none 0 0, .slice none 0 0] 77))
  have c1 := HRA.out.st.c1
  have HT1 := hide (nTake_ok B c mb s D F _ (Nat.le_trans hB HRA.out.size) i 83 hs h83 HRA.out.st)
  have HDG0 := hide (fun (W : World) (hW : w.heap.size ≤ W.heap.size) (h : nS B c mb s ((i + 1 : Nat) : Int) (-1) D F W) => nDig_on B c mb s D F W (Nat.le_trans hB hW) (i + 1) hs hi h)
  have hnf := dNum_from s (i + 1) hi
  clear h h83
  cases hn : dNum s (i + 1) with
  | bad e0 =>
    rw [hn] at hnf
    simp only at hnf
    subst hnf
    have HN := hide hn
    have HE := hide (dAgain_num (D := D) hn)
    clear hn
    go_enter Tryd.func48, Tryd.ntmps48
    go_wp2_with (first | (go_at_call 24; refine HT1.out.mono ?_; rintro e w1 ⟨rfl, hr⟩; have HR1 := hide (HRA.out.trans hr); have HB1 := hide (HBA.out.step hr); have r0 := block_cell HB1.out.1 0; have r1 := block_cell HB1.out.1 1; have r2 := block_cell HB1.out.1 2; have r3 := block_cell HB1.out.1 3; have HDG := hide (HDG0.out w1 (HR1.out.size) HR1.out.st); clear hr HT1) | (go_at_call 71; refine HDG.out.mono ?_; intro e w2 hrp; obtain ⟨rfl, _, y, hy, hr⟩ := hrp.of_bad HN.out; have HR2 := hide (HR1.out.trans hr); have HB2 := hide (HB1.out.step hr); have HTT := hide (nTake_off B c mb s D F w2 (Nat.le_trans hB HR2.out.size) y ((i + 1 : Nat) : Int) 95 (by omega) (by omega) HR2.out.st); clear hr hrp HDG r0 r1 r2 r3) | (go_at_call 24; refine HTT.out.mono ?_; rintro e w3 ⟨rfl, hr⟩; have HR3 := hide (HR2.out.trans hr); have HB3 := hide (HB2.out.step hr); have r0 := block_cell HB3.out.1 0; have r1 := block_cell HB3.out.1 1; have r2 := block_cell HB3.out.1 2; have r3 := block_cell HB3.out.1 3; have fr0 := block_free HB3.out.1 0; have fr1 := block_free HB3.out.1 1; have fr2 := block_free HB3.out.1 2; have fr3 := block_free HB3.out.1 3; have c2 := hr.st.c2; clear hr HTT))
    obtain ⟨hrz, hbz, hsz⟩ := nFin HR3.out hB HB3.out (Nat.le_refl _) (.int .i64 0) (.int .i64 0) (.slice none 0 0) (.slice none 0 0)
    generalize World.setCell _ (⟨w.heap.size, 3, none⟩ : Addr) _ = wz at hrz hbz hsz ⊢
    have z0 := block_cell hbz 0
    have z1 := block_cell hbz 1
    have z2 := block_cell hbz 2
    have z3 := block_cell hbz 3
    simp at z0 z1 z2 z3
    ((try simp only [Exit.inBlock, Exit.then]); refine bodyPost_ret (by simp [results, Tryd.results48, go_sem, z0, z1, z2, z3]; try rfl) rfl ?_)
    exact RP.bad HE.out ⟨rfl, y + 1, by omega, hrz⟩
  | ok j n =>
    rw [hn] at hnf
    simp only at hnf
    obtain ⟨hij, hj4, hjs⟩ := hnf
    have hn4 := (dNum_lt hn).1
    have HN := hide hn
    clear hn
    by_cases h95 : s.data.toList[j]? = some 95
    · have hjl := get_lt h95
      have HTT0 := hide (fun (W : World) (hW : B ≤ W.heap.size) (h : nS B c mb s j (-1) D F W) => nTake_ok B c mb s D F W hW j 95 hs h95 h)
      have HF0 := hide (fun (W : World) (hW : B ≤ W.heap.size) (h : nS B c mb s ((j + 1 : Nat) : Int) (-1) D F W) => nFail_new B c mb s D F W hW ((j + 1 : Nat) : Int) i h)
      cases hx : D[n]? with
      | none =>
        have HE := hide (dAgain_no HN.out h95 hx)
        have hnl : (D.length : Int) ≤ (n : Int) := by have := List.getElem?_eq_none_iff.1 hx; omega
        clear h95 hx
        go_enter Tryd.func48, Tryd.ntmps48
        go_wp2_with (first | (go_at_call 24; refine HT1.out.mono ?_; rintro e w1 ⟨rfl, hr⟩; have HR1 := hide (HRA.out.trans hr); have HB1 := hide (HBA.out.step hr); have r0 := block_cell HB1.out.1 0; have r1 := block_cell HB1.out.1 1; have r2 := block_cell HB1.out.1 2; have r3 := block_cell HB1.out.1 3; have HDG := hide (HDG0.out w1 (HR1.out.size) HR1.out.st); clear hr HT1) | (go_at_call 71; refine HDG.out.mono ?_; intro e w2 hrp; obtain ⟨rfl, hr⟩ := hrp.of_ok HN.out; have HR2 := hide (HR1.out.trans hr); have HB2 := hide (HB1.out.step hr); have HTT := hide (HTT0.out w2 (Nat.le_trans hB HR2.out.size) HR2.out.st); clear hr hrp HDG r0 r1 r2 r3) | (go_at_call 24; refine HTT.out.mono ?_; rintro e w3 ⟨rfl, hr⟩; have HR3 := hide (HR2.out.trans hr); have HB3 := hide (HB2.out.step hr); have r0 := block_cell HB3.out.1 0; have r1 := block_cell HB3.out.1 1; have r2 := block_cell HB3.out.1 2; have r3 := block_cell HB3.out.1 3; have fr0 := block_free HB3.out.1 0; have fr1 := block_free HB3.out.1 1; have fr2 := block_free HB3.out.1 2; have fr3 := block_free HB3.out.1 3; have c2 := hr.st.c2; obtain ⟨A4, k4, c4⟩ := hr.st.c4; have HF := hide (HF0.out w3 (Nat.le_trans hB HR3.out.size) HR3.out.st); clear hr HTT) | (go_at_call 28; refine HF.out.mono ?_; rintro e w4 ⟨rfl, hr⟩; have HR4 := hide (HR3.out.trans hr); have HB4 := hide (HB3.out.step hr); have s0 := block_cell HB4.out.1 0; have s1 := block_cell HB4.out.1 1; have s2 := block_cell HB4.out.1 2; have s3 := block_cell HB4.out.1 3; have fs0 := block_free HB4.out.1 0; have fs1 := block_free HB4.out.1 1; have fs2 := block_free HB4.out.1 2; have fs3 := block_free HB4.out.1 3; clear hr HF r0 r1 r2 r3 fr0 fr1 fr2 fr3))
        obtain ⟨hrz, hbz, hsz⟩ := nFin HR4.out hB HB4.out (Nat.le_refl _) (.int .i64 0) (.int .i64 0) (.slice none 0 0) (.slice none 0 0)
        generalize World.setCell _ (⟨w.heap.size, 3, none⟩ : Addr) _ = wz at hrz hbz hsz ⊢
        have z0 := block_cell hbz 0
        have z1 := block_cell hbz 1
        have z2 := block_cell hbz 2
        have z3 := block_cell hbz 3
        simp at z0 z1 z2 z3
        ((try simp only [Exit.inBlock, Exit.then]); refine bodyPost_ret (by simp [results, Tryd.results48, go_sem, z0, z1, z2, z3]; try rfl) rfl ?_)
        exact RP.bad HE.out ⟨rfl, j + 1, by omega, hrz⟩
      | some x =>
        have HE := hide (dAgain_ok HN.out h95 hx)
        have hnl := (List.getElem?_eq_some_iff.1 hx).1
        have hnl' : decide ((D.length : Int) ≤ (n : Int)) = false := by simp; omega
        have HX := hide hx
        clear h95 hx
        go_enter Tryd.func48, Tryd.ntmps48
        go_wp2_with (first | (go_at_call 24; refine HT1.out.mono ?_; rintro e w1 ⟨rfl, hr⟩; have HR1 := hide (HRA.out.trans hr); have HB1 := hide (HBA.out.step hr); have r0 := block_cell HB1.out.1 0; have r1 := block_cell HB1.out.1 1; have r2 := block_cell HB1.out.1 2; have r3 := block_cell HB1.out.1 3; have HDG := hide (HDG0.out w1 (HR1.out.size) HR1.out.st); clear hr HT1) | (go_at_call 71; refine HDG.out.mono ?_; intro e w2 hrp; obtain ⟨rfl, hr⟩ := hrp.of_ok HN.out; have HR2 := hide (HR1.out.trans hr); have HB2 := hide (HB1.out.step hr); have HTT := hide (HTT0.out w2 (Nat.le_trans hB HR2.out.size) HR2.out.st); clear hr hrp HDG r0 r1 r2 r3) | (go_at_call 24; refine HTT.out.mono ?_; rintro e w3 ⟨rfl, hr⟩; have HR3 := hide (HR2.out.trans hr); have HB3 := hide (HB2.out.step hr); have r0 := block_cell HB3.out.1 0; have r1 := block_cell HB3.out.1 1; have r2 := block_cell HB3.out.1 2; have r3 := block_cell HB3.out.1 3; have fr0 := block_free HB3.out.1 0; have fr1 := block_free HB3.out.1 1; have fr2 := block_free HB3.out.1 2; have fr3 := block_free HB3.out.1 3; have c2 := hr.st.c2; obtain ⟨g4, k4, nk, A4, m4, r4, A5, m5, r5, c4, hc4, hc5, x0, x1, x2, x3, hty⟩ := hr.st.node HX.out; have HTY := hide hty; clear hty; clear hr HTT))
        obtain ⟨hrz, hbz, hsz⟩ := nFin HR3.out hB HB3.out (Nat.le_refl _) (.int .i64 (n : Nat)) (.int .i64 nk) (.slice A4 m4 r4) (.slice A5 m5 r5)
        generalize World.setCell _ (⟨w.heap.size, 3, none⟩ : Addr) _ = wz at hrz hbz hsz ⊢
        have z0 := block_cell hbz 0
        have z1 := block_cell hbz 1
        have z2 := block_cell hbz 2
        have z3 := block_cell hbz 3
        simp at z0 z1 z2 z3
        ((try simp only [Exit.inBlock, Exit.then]); refine bodyPost_ret (by simp [results, Tryd.results48, go_sem, z0, z1, z2, z3]; try rfl) rfl ?_)
        exact RP.ok HE.out ⟨nk, A4, m4, r4, A5, m5, r5, rfl, stay_tyU _ _ _ _ _ _ HTY.out hsz (fun _ h _ => h), rfl, hrz⟩
    · have HE := hide (dAgain_sep (D := D) HN.out h95)
      have HTT0 := hide (fun (W : World) (hW : B ≤ W.heap.size) (h : nS B c mb s j (-1) D F W) => nTake_bad B c mb s D F W hW j 95 hs hjs h95 h)
      clear h95
      go_enter Tryd.func48, Tryd.ntmps48
      go_wp2_with (first | (go_at_call 24; refine HT1.out.mono ?_; rintro e w1 ⟨rfl, hr⟩; have HR1 := hide (HRA.out.trans hr); have HB1 := hide (HBA.out.step hr); have r0 := block_cell HB1.out.1 0; have r1 := block_cell HB1.out.1 1; have r2 := block_cell HB1.out.1 2; have r3 := block_cell HB1.out.1 3; have HDG := hide (HDG0.out w1 (HR1.out.size) HR1.out.st); clear hr HT1) | (go_at_call 71; refine HDG.out.mono ?_; intro e w2 hrp; obtain ⟨rfl, hr⟩ := hrp.of_ok HN.out; have HR2 := hide (HR1.out.trans hr); have HB2 := hide (HB1.out.step hr); have HTT := hide (HTT0.out w2 (Nat.le_trans hB HR2.out.size) HR2.out.st); clear hr hrp HDG r0 r1 r2 r3) | (go_at_call 24; refine HTT.out.mono ?_; rintro e w3 ⟨rfl, y, hy, hr⟩; have HR3 := hide (HR2.out.trans hr); have HB3 := hide (HB2.out.step hr); have r0 := block_cell HB3.out.1 0; have r1 := block_cell HB3.out.1 1; have r2 := block_cell HB3.out.1 2; have r3 := block_cell HB3.out.1 3; have fr0 := block_free HB3.out.1 0; have fr1 := block_free HB3.out.1 1; have fr2 := block_free HB3.out.1 2; have fr3 := block_free HB3.out.1 3; have c2 := hr.st.c2; clear hr HTT))
      obtain ⟨hrz, hbz, hsz⟩ := nFin HR3.out hB HB3.out (Nat.le_refl _) (.int .i64 0) (.int .i64 0) (.slice none 0 0) (.slice none 0 0)
      generalize World.setCell _ (⟨w.heap.size, 3, none⟩ : Addr) _ = wz at hrz hbz hsz ⊢
      have z0 := block_cell hbz 0
      have z1 := block_cell hbz 1
      have z2 := block_cell hbz 2
      have z3 := block_cell hbz 3
      simp at z0 z1 z2 z3
      ((try simp only [Exit.inBlock, Exit.then]); refine bodyPost_ret (by simp [results, Tryd.results48, go_sem, z0, z1, z2, z3]; try rfl) rfl ?_)
      exact RP.bad HE.out ⟨rfl, y, by omega, hrz⟩
end Go.Proofs.YtocpmbpckbjepaaDoor
