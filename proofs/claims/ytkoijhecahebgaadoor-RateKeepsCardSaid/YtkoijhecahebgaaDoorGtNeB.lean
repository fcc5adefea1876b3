/- NewGate of the program, where it refuses. -/
import Derived.Test.YtkoijhecahebgaaDoorGtNew
namespace Go.Proofs.YtkoijhecahebgaaDoor
open Go.RowKit Go.Maps
set_option linter.unusedVariables false
set_option linter.unusedSimpArgs false
set_option maxRecDepth 100000 in
set_option maxHeartbeats 8000000 in
theorem NewGate_bad (n qc0 rn rc : Nat) (qA0 rA : Option Addr) (Q : List Qt) (RT : List RtK) (t : Int) (w : World) (hn : n ≤ maxLen) (hq : Sl w w.heap.size Qt.cs 5 qA0 n Q) (hqf : QtFit Q) (hrn : rn ≤ maxLen) (hr : Sl w w.heap.size RtK.cs 2 rA rn RT) (hrf : RkFit RT) (hE : newE Q RT t ≠ 0) :
    Calls Tryd.prog 5 #[.slice qA0 n qc0, .slice rA rn rc, .int .i64 t] w fun e w' => e = .returned (.tuple #[.pointer none, .int .i64 (newE Q RT t)]) ∧ Below w.heap.size w w' := by
  have hql := hq.len
  have hn50 : qtErr Q = 0 → n ≤ 50 := fun h1 => by
    by_cases h : 50 < Q.length
    · rw [qtErr, if_pos h] at h1; cases h1
    · omega
  have HC := hide (CheckQuotas_any qA0 n qc0 Q w hn hq hqf)
  have HL := hide (fun (W : World) (h : Below w.heap.size w W) (h2 : n ≤ 1000) => CloneQt_any qA0 n qc0 Q W h2 (Sl.up hq h))
  have HM := hide (fun W => isMoment_any t W)
  have HR := hide hr
  have HE := hide hE
  have hmm := @run_makeMap Tryd.prog
  by_cases h1 : qtErr Q = 0
  · have hn1 : n ≤ 1000 := by have := hn50 h1; omega
    rw [h1] at HC
    by_cases h2 : rtErr RT = 0
    · have h3 : outsideB t 0 3155759999 = true := by
        unfold newE at hE
        rw [if_pos h1, if_pos h2] at hE
        split at hE
        · assumption
        · exact absurd rfl hE
      have E := hide (show newE Q RT t = 2 by rw [newE, if_pos h1, if_pos h2, if_pos h3])
      rw [h3] at HM
      have H2 := hide h2
      clear hq hr h1 h2 h3 hE hn50
      go_enter Tryd.func5, Tryd.ntmps5
      go_wp2_with (first | (go_at_call 7; refine HC.out.mono ?_; rintro e w1 ⟨rfl, hw1⟩; have HW1 := hide hw1; clear hw1) | (go_at_call 21; refine (HL.out _ HW1.out hn1).mono ?_; rintro e w2 ⟨v, rfl, hown, hw2⟩; obtain ⟨qA, qc, rfl⟩ := own_sl hown; have HW2 := hide (HW1.out.trans (hw2.mono HW1.out.size)); clear hown hw2))
      clear hmm
      have hz2 := HW2.out.size
      obtain ⟨p, hp⟩ : ∃ p, w2.heap.size + 1 = p := ⟨_, rfl⟩
      obtain ⟨tb, htb⟩ : ∃ tb, w2.heap.size = tb := ⟨_, rfl⟩
      obtain ⟨wb, hwb, hbb, hsb, hb1⟩ : ∃ wb, (w2.alloc (.map #[] 0)).alloc (.cells #[.slice qA n qc, .slice none 0 0, .map none, .int .i64 t, .map (some tb)] 64) = wb ∧ Below w2.heap.size w2 wb ∧ wb.heap.size = w2.heap.size + 2 ∧ wb.heap[p]? = some (.cells #[.slice qA n qc, .slice none 0 0, .map none, .int .i64 t, .map (some tb)] 64 (0, 0)) :=
        ⟨_, rfl, ((Below.refl _ _).alloc (Nat.le_refl _) _).alloc (by simp) _, by simp, by
          have h := heap_alloc_new (w2.alloc (.map #[] 0)) (.cells #[.slice qA n qc, .slice none 0 0, .map none, .int .i64 t, .map (some tb)] 64)
          rw [World.size_alloc, hp] at h; exact h⟩
      rw [hp, htb, hwb]
      have HWB := hide (HW2.out.trans (hbb.mono hz2))
      have hzb := HWB.out.size
      have CR := hide (Rates_ok p w.heap.size rn rc rA RT _ _ _ _ _ wb hrn ((HR.out.below HWB.out).more hzb) hrf hb1 (by omega) (fun h0 b o e => by
        obtain ⟨b', o', e', hlt, _⟩ := HR.out.cells h0
        rw [e] at e'; cases e'
        omega))
      refine CR.out.mono ?_
      rintro e w3 ⟨rfl, _, h3⟩
      obtain ⟨rb, RD, m, _, _, _, _, _, hk3⟩ := h3 H2.out
      rw [H2.out]
      have HB3 := hide (HWB.out.trans hk3.be)
      clear hk3 CR
      go_wp2_with (first | (go_at_call 22; refine (HM.out _).mono ?_; rintro e w' ⟨rfl, rfl⟩))
      refine bodyPost_ret (by simp [results, Tryd.results5, go_sem]; try rfl) rfl ?_
      exact ⟨by rw [E.out], HB3.out⟩
    · have hne : (rtErr RT == 0) = false := by simpa using h2
      have E := hide (show newE Q RT t = rtErr RT by rw [newE, if_pos h1, if_neg h2])
      have H2 := hide h2
      clear hq hr h1 h2 hE hn50
      go_enter Tryd.func5, Tryd.ntmps5
      go_wp2_with (first | (go_at_call 7; refine HC.out.mono ?_; rintro e w1 ⟨rfl, hw1⟩; have HW1 := hide hw1; clear hw1) | (go_at_call 21; refine (HL.out _ HW1.out hn1).mono ?_; rintro e w2 ⟨v, rfl, hown, hw2⟩; obtain ⟨qA, qc, rfl⟩ := own_sl hown; have HW2 := hide (HW1.out.trans (hw2.mono HW1.out.size)); clear hown hw2))
      clear hmm
      have hz2 := HW2.out.size
      obtain ⟨p, hp⟩ : ∃ p, w2.heap.size + 1 = p := ⟨_, rfl⟩
      obtain ⟨tb, htb⟩ : ∃ tb, w2.heap.size = tb := ⟨_, rfl⟩
      obtain ⟨wb, hwb, hbb, hsb, hb1⟩ : ∃ wb, (w2.alloc (.map #[] 0)).alloc (.cells #[.slice qA n qc, .slice none 0 0, .map none, .int .i64 t, .map (some tb)] 64) = wb ∧ Below w2.heap.size w2 wb ∧ wb.heap.size = w2.heap.size + 2 ∧ wb.heap[p]? = some (.cells #[.slice qA n qc, .slice none 0 0, .map none, .int .i64 t, .map (some tb)] 64 (0, 0)) :=
        ⟨_, rfl, ((Below.refl _ _).alloc (Nat.le_refl _) _).alloc (by simp) _, by simp, by
          have h := heap_alloc_new (w2.alloc (.map #[] 0)) (.cells #[.slice qA n qc, .slice none 0 0, .map none, .int .i64 t, .map (some tb)] 64)
          rw [World.size_alloc, hp] at h; exact h⟩
      rw [hp, htb, hwb]
      have HWB := hide (HW2.out.trans (hbb.mono hz2))
      have hzb := HWB.out.size
      have CR := hide (Rates_ok p w.heap.size rn rc rA RT _ _ _ _ _ wb hrn ((HR.out.below HWB.out).more hzb) hrf hb1 (by omega) (fun h0 b o e => by
        obtain ⟨b', o', e', hlt, _⟩ := HR.out.cells h0
        rw [e] at e'; cases e'
        omega))
      refine CR.out.mono ?_
      rintro e w3 ⟨rfl, h3, _⟩
      have HB3 := hide (HWB.out.trans ((h3 H2.out).mono hzb))
      clear h3 CR
      go_wp2_with (fail)
      refine bodyPost_ret (by simp [results, Tryd.results5, go_sem]; try rfl) rfl ?_
      exact ⟨by rw [E.out], HB3.out⟩
  · have hne : (qtErr Q == 0) = false := by simpa using h1
    have E := hide (show newE Q RT t = qtErr Q by rw [newE, if_neg h1])
    clear hq hr h1 hE hn50
    go_enter Tryd.func5, Tryd.ntmps5
    go_wp2_with (first | (go_at_call 7; refine HC.out.mono ?_; rintro e w1 ⟨rfl, hw1⟩; have HW1 := hide hw1; clear hw1))
    refine bodyPost_ret (by simp [results, Tryd.results5, go_sem]; try rfl) rfl ?_
    exact ⟨by rw [E.out], HW1.out⟩
end Go.Proofs.YtkoijhecahebgaaDoor
