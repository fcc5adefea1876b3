/- Parse and Parsed answer alike; the law NameParses (printed by gen_pr.py). -/
import Derived.Test.YthlhiegbiapllaaNmPaQ1
import Derived.Test.YthlhiegbiapllaaNmPaQ2
namespace Go.Proofs.Ythlhiegbiapllaa
open Go.RowKit
set_option linter.unusedVariables false
set_option linter.unusedSimpArgs false
/-- What is answered, and that all below stays. -/
def PsOut (s : ByteArray) (w : World) (r : Ending) (w' : World) : Prop :=
  (∃ (A : Option Addr) (n q : Nat) (A' : Option Addr) (n' q' : Nat), r = .returned (.tuple #[.agg #[.slice A n q, .slice A' n' q'], .int .i64 (psN s), .int .i64 (psE s)]) ∧ SymIn w' 12 (psS s) [.slice A n q, .slice A' n' q']) ∧ Below w.heap.size w w'
section
variable {s : ByteArray} {w : World}
theorem out_bad {e : Nat} (hs : s.size ≤ 8000) (hp : pSym s = .bad e) : ∀ r w', (r = .returned (.tuple #[.agg #[.slice none 0 0, .slice none 0 0], .int .i64 (e : Nat), .int .i64 8]) ∧ Below w.heap.size w w') → PsOut s w r w' := fun r w' ⟨h1, h2⟩ => by
  obtain ⟨a, b, c⟩ := ps_bad hs hp
  unfold PsOut
  rw [a, b, c]
  exact ⟨⟨_, _, _, _, _, _, h1, nullSym_in _ _⟩, h2⟩
theorem out_no {i : Nat} {a : Sym} {E : Int} (hs : s.size ≤ 8000) (hp : pSym s = .ok i a) (hE : (symE a).1 = E) (h0 : E ≠ 0) : ∀ r w', (r = .returned (.tuple #[.agg #[.slice none 0 0, .slice none 0 0], .int .i64 0, .int .i64 E]) ∧ Below w.heap.size w w') → PsOut s w r w' := fun r w' ⟨h1, h2⟩ => by
  obtain ⟨x, b, c⟩ := ps_no hs hp (by rw [hE]; exact h0)
  unfold PsOut
  rw [x, b, c, hE]
  exact ⟨⟨_, _, _, _, _, _, h1, nullSym_in _ _⟩, h2⟩
theorem out_ok {i : Nat} {a : List Part} {l : List Ty} (hs : s.size ≤ 8000) (hp : pSym s = .ok i ⟨a, l⟩) (hE : (symE ⟨a, l⟩).1 = 0) :
    ∀ r w', ((∃ (A : Option Addr) (n q : Nat) (A' : Option Addr) (n' q' : Nat), r = .returned (.tuple #[.agg #[.slice A n q, .slice A' n' q'], .int .i64 0, .int .i64 0]) ∧ SymIn w' 12 ⟨a, l⟩ [.slice A n q, .slice A' n' q']) ∧ Below w.heap.size w w') → PsOut s w r w' := fun r w' ⟨h1, h2⟩ => by
  obtain ⟨x, b, c⟩ := ps_ok hs hp hE
  unfold PsOut
  rw [x, b, c]
  exact ⟨h1, h2⟩
theorem pName_no (h : idL s 0 = 0) : pName s = .bad 0 := by rw [pName, if_pos h]
theorem pName_is (h : idL s 0 ≠ 0) : pName s = pParts s (pOne s 12) (s.size + 1) [] (s.extract 0 (0 + idL s 0)) (0 + idL s 0) := by rw [pName, if_neg h]
theorem pName_next : pName s = pNext s (pOne s 12) (s.size + 1) [] 0 := rfl
end
set_option maxHeartbeats 4000000 in
theorem nParse_big (s : ByteArray) (w : World) (hs : s.size ≤ maxLen) (h8 : 8000 < s.size) :
    Calls Try.prog 14 #[.string s] w fun r w' => r = .returned (.tuple #[.agg #[.slice none 0 0, .slice none 0 0], .int .i64 0, .int .i64 4]) ∧ Below w.heap.size w w' := by
  unfold maxLen at hs
  have h8i : (8000 : Int) < (s.size : Int) := by omega
  have HX := hide (heap_alloc_new w (.cells #[.slice none 0 0, .slice none 0 0] 25))
  have HBE := hide (show Below w.heap.size w (w.alloc (.cells #[.slice none 0 0, .slice none 0 0] 25)) from (Below.refl _ _).alloc (Nat.le_refl _) _)
  go_enter Try.func14, Try.ntmps14
  go_wp2_with (fail)
  have hbz := block_set (block_set HX.out (i := 0) (.slice none 0 0)) (i := 1) (.slice none 0 0)
  have hbe := (HBE.out.setCell (p := ⟨w.heap.size, 0, none⟩) (by simp) (.slice none 0 0)).setCell (p := ⟨w.heap.size, 1, none⟩) (by simp) (.slice none 0 0)
  first
  | (generalize (((w.alloc (.cells #[.slice none 0 0, .slice none 0 0] 25)).setCell ⟨w.heap.size, 0, none⟩ (.slice none 0 0)).setCell ⟨w.heap.size, 1, none⟩ (.slice none 0 0)) = wf at hbz hbe ⊢
     have r0 : wf.cell? ⟨w.heap.size, 0, none⟩ = some (.slice none 0 0) := (block_cell hbz 0).trans rfl
     have r1 : wf.cell? ⟨w.heap.size, 1, none⟩ = some (.slice none 0 0) := (block_cell hbz 1).trans rfl
     refine bodyPost_ret (by simp [results, Try.results14, go_sem, r0, r1]; try rfl) rfl ?_
     exact ⟨rfl, hbe⟩)
  | (refine bodyPost_ret (by simp [results, Try.results14, go_sem]; try rfl) rfl ?_
     exact ⟨rfl, HBE.out⟩)
theorem nParse_any (s : ByteArray) (w : World) (hs : s.size ≤ maxLen) : Calls Try.prog 14 #[.string s] w fun r w' => PsOut s w r w' := by
  by_cases h8 : 8000 < s.size
  · refine (nParse_big s w hs h8).mono fun r w' ⟨h1, h2⟩ => ?_
    obtain ⟨a, b, c⟩ := ps_big h8
    unfold PsOut
    rw [a, b, c]
    exact ⟨⟨_, _, _, _, _, _, h1, nullSym_in _ _⟩, h2⟩
  have hs : s.size ≤ 8000 := by omega
  by_cases hid : idL s 0 = 0
  · exact (nParse_0 s w hs hid).mono (out_bad hs (pSym_1 (pName_no hid)))
  have hfr := pParts_from (pOne_from s 12) (s.size + 1) [] (s.extract 0 (0 + idL s 0)) (0 + idL s 0) (idL_le s 0 (Nat.zero_le _))
  cases hn : pParts s (pOne s 12) (s.size + 1) [] (s.extract 0 (0 + idL s 0)) (0 + idL s 0) with
  | bad e => exact (nParse_1 s w hs e hid hn).mono (out_bad hs (pSym_1 ((pName_is hid).trans hn)))
  | ok i a =>
    have HN := (pName_is hid).trans hn
    have his : i ≤ s.size := by rw [hn] at hfr; exact hfr.2
    cases hk : needB s [40] i with
    | bad e => exact (nParse_2 s w hs i a his hid hn e hk).mono (out_bad hs (pSym_2 HN hk))
    | ok j u =>
      have hjs := (needB_ok s [40] i j u his hk).2
      cases hv : isB s j 41
      · have hft := pTys_from (pOne_from s 12) (s.size + 1) [] j hjs
        cases ht : pTys s (pOne s 12) (s.size + 1) [] j with
        | bad e => exact (nParse_3 s w hs i a his hid hn j u hjs hk hv e ht).mono (out_bad hs (pSym_3 HN hk ((pTakes_no hv).trans ht)))
        | ok k l =>
          have hks : k ≤ s.size := by rw [ht] at hft; exact hft.2
          have HT := (pTakes_no hv).trans ht
          cases hk2 : needB s [41] k with
          | bad e => exact (nParse_4 s w hs i a his hid hn j u hjs hk hv k l hks ht e hk2).mono (out_bad hs (pSym_4 HN hk HT hk2))
          | ok m u2 =>
            have hm2 := (needB_ok s [41] k m u2 hks hk2).2
            by_cases hlt : m < s.size
            · exact (nParse_5t s w hs i a his hid hn j u hjs hk hv k l hks ht m u2 hm2 hk2 hlt).mono (out_bad hs (pSym_5 HN hk HT hk2 hlt))
            · have HP := pSym_6 HN hk HT hk2 hlt
              by_cases h0 : (symE ⟨a, l⟩).1 = 0
              · exact (nParse_7t s w hs i a his hid hn j u hjs hk hv k l hks ht m u2 hm2 hk2 hlt h0).mono (out_ok hs HP h0)
              · exact (nParse_6t s w hs i a his hid hn j u hjs hk hv k l hks ht m u2 hm2 hk2 hlt _ rfl h0).mono (out_no hs HP rfl h0)
      · have HT := pTakes_yes hv
        have hk2 := need_one hv
        have hm2 : j + 1 ≤ s.size := get_lt (isB_true hv)
        by_cases hlt : j + 1 < s.size
        · exact (nParse_5y s w hs i a his hid hn j u hjs hk hv (j + 1) () hm2 hk2 hlt).mono (out_bad hs (pSym_5 HN hk HT hk2 hlt))
        · have HP := pSym_6 HN hk HT hk2 hlt
          by_cases h0 : (symE ⟨a, []⟩).1 = 0
          · exact (nParse_7y s w hs i a his hid hn j u hjs hk hv (j + 1) () hm2 hk2 hlt h0).mono (out_ok hs HP h0)
          · exact (nParse_6y s w hs i a his hid hn j u hjs hk hv (j + 1) () hm2 hk2 hlt _ rfl h0).mono (out_no hs HP rfl h0)
set_option maxHeartbeats 4000000 in
theorem rParse_big (s : ByteArray) (w : World) (hs : s.size ≤ maxLen) (h8 : 8000 < s.size) :
    Calls Try.prog 15 #[.string s] w fun r w' => r = .returned (.tuple #[.agg #[.slice none 0 0, .slice none 0 0], .int .i64 0, .int .i64 4]) ∧ Below w.heap.size w w' := by
  unfold maxLen at hs
  have h8i : (8000 : Int) < (s.size : Int) := by omega
  have HX := hide (heap_alloc_new w (.cells #[.slice none 0 0, .slice none 0 0] 25))
  have HBE := hide (show Below w.heap.size w (w.alloc (.cells #[.slice none 0 0, .slice none 0 0] 25)) from (Below.refl _ _).alloc (Nat.le_refl _) _)
  go_enter Try.func15, Try.ntmps15
  go_wp2_with (fail)
  have hbz := block_set (block_set HX.out (i := 0) (.slice none 0 0)) (i := 1) (.slice none 0 0)
  have hbe := (HBE.out.setCell (p := ⟨w.heap.size, 0, none⟩) (by simp) (.slice none 0 0)).setCell (p := ⟨w.heap.size, 1, none⟩) (by simp) (.slice none 0 0)
  first
  | (generalize (((w.alloc (.cells #[.slice none 0 0, .slice none 0 0] 25)).setCell ⟨w.heap.size, 0, none⟩ (.slice none 0 0)).setCell ⟨w.heap.size, 1, none⟩ (.slice none 0 0)) = wf at hbz hbe ⊢
     have r0 : wf.cell? ⟨w.heap.size, 0, none⟩ = some (.slice none 0 0) := (block_cell hbz 0).trans rfl
     have r1 : wf.cell? ⟨w.heap.size, 1, none⟩ = some (.slice none 0 0) := (block_cell hbz 1).trans rfl
     refine bodyPost_ret (by simp [results, Try.results15, go_sem, r0, r1]; try rfl) rfl ?_
     exact ⟨rfl, hbe⟩)
  | (refine bodyPost_ret (by simp [results, Try.results15, go_sem]; try rfl) rfl ?_
     exact ⟨rfl, HBE.out⟩)
theorem rParse_any (s : ByteArray) (w : World) (hs : s.size ≤ maxLen) : Calls Try.prog 15 #[.string s] w fun r w' => PsOut s w r w' := by
  by_cases h8 : 8000 < s.size
  · refine (rParse_big s w hs h8).mono fun r w' ⟨h1, h2⟩ => ?_
    obtain ⟨a, b, c⟩ := ps_big h8
    unfold PsOut
    rw [a, b, c]
    exact ⟨⟨_, _, _, _, _, _, h1, nullSym_in _ _⟩, h2⟩
  have hs : s.size ≤ 8000 := by omega
  have hfr : Within (pNext s (pOne s 12) (s.size + 1) [] 0) 0 s.size := by
    unfold pNext
    split
    · exact Nat.zero_le _
    · exact (pParts_from (pOne_from s 12) (s.size + 1) [] _ _ (idL_le s 0 (Nat.zero_le _))).mono (Nat.zero_le _)
  cases hn : pNext s (pOne s 12) (s.size + 1) [] 0 with
  | bad e => exact (rParse_1 s w hs e hn).mono (out_bad hs (pSym_1 (pName_next.trans hn)))
  | ok i a =>
    have HN := pName_next.trans hn
    have his : i ≤ s.size := by rw [hn] at hfr; exact hfr.2
    cases hk : needB s [40] i with
    | bad e => exact (rParse_2 s w hs i a his hn e hk).mono (out_bad hs (pSym_2 HN hk))
    | ok j u =>
      have hjs := (needB_ok s [40] i j u his hk).2
      cases hv : isB s j 41
      · have hft := pTys_from (pOne_from s 12) (s.size + 1) [] j hjs
        cases ht : pTys s (pOne s 12) (s.size + 1) [] j with
        | bad e => exact (rParse_3 s w hs i a his hn j u hjs hk hv e ht).mono (out_bad hs (pSym_3 HN hk ((pTakes_no hv).trans ht)))
        | ok k l =>
          have hks : k ≤ s.size := by rw [ht] at hft; exact hft.2
          have HT := (pTakes_no hv).trans ht
          cases hk2 : needB s [41] k with
          | bad e => exact (rParse_4 s w hs i a his hn j u hjs hk hv k l hks ht e hk2).mono (out_bad hs (pSym_4 HN hk HT hk2))
          | ok m u2 =>
            have hm2 := (needB_ok s [41] k m u2 hks hk2).2
            by_cases hlt : m < s.size
            · exact (rParse_5t s w hs i a his hn j u hjs hk hv k l hks ht m u2 hm2 hk2 hlt).mono (out_bad hs (pSym_5 HN hk HT hk2 hlt))
            · have HP := pSym_6 HN hk HT hk2 hlt
              by_cases h0 : (symE ⟨a, l⟩).1 = 0
              · exact (rParse_7t s w hs i a his hn j u hjs hk hv k l hks ht m u2 hm2 hk2 hlt h0).mono (out_ok hs HP h0)
              · exact (rParse_6t s w hs i a his hn j u hjs hk hv k l hks ht m u2 hm2 hk2 hlt _ rfl h0).mono (out_no hs HP rfl h0)
      · have HT := pTakes_yes hv
        have hk2 := need_one hv
        have hm2 : j + 1 ≤ s.size := get_lt (isB_true hv)
        by_cases hlt : j + 1 < s.size
        · exact (rParse_5y s w hs i a his hn j u hjs hk hv (j + 1) rfl hm2 hlt).mono (out_bad hs (pSym_5 HN hk HT hk2 hlt))
        · have HP := pSym_6 HN hk HT hk2 hlt
          by_cases h0 : (symE ⟨a, []⟩).1 = 0
          · exact (rParse_7y s w hs i a his hn j u hjs hk hv (j + 1) rfl hm2 hlt h0).mono (out_ok hs HP h0)
          · exact (rParse_6y s w hs i a his hn j u hjs hk hv (j + 1) rfl hm2 hlt _ rfl h0).mono (out_no hs HP rfl h0)
namespace nameParses
set_option maxRecDepth 100000 in
set_option maxHeartbeats 8000000 in
theorem walk (s : ByteArray) (hs : s.size ≤ maxLen) (w : World) : Calls Try.prog 4 #[.string s] w fun e w' => e = .returned (.bool true) ∧ Below w.heap.size w w' := by
  have HN := hide (fun W => nParse_any s W hs)
  have HR := hide (fun W => rParse_any s W hs)
  have HS := hide (fun (A : Option Addr) (n q : Nat) (A' : Option Addr) (n' q' : Nat) (B : Option Addr) (m c : Nat) (B' : Option Addr) (m' c' : Nat) W h h' => same_yes (rfl : psS s = psS s) ▸ SameSymbol_any 12 (psS s) (psS s) [.slice A n q, .slice A' n' q'] [.slice B m c, .slice B' m' c'] W h h')
  obtain ⟨E, hE⟩ : ∃ E, psE s = E := ⟨_, rfl⟩
  obtain ⟨K, hK⟩ : ∃ K, psN s = K := ⟨_, rfl⟩
  unfold PsOut at HN HR
  rw [hE, hK] at HN HR
  clear hE hK
  go_enter Try.func4, Try.ntmps4
  go_wp2_with (first
    | (go_at_call 14; refine (HN.out _).mono ?_; rintro r w1 ⟨⟨A, n, q, A', n', q', rfl, hin⟩, hw1⟩; have HI1 := hide hin; have HB1 := hide (hw1.alloc hw1.size (.cells #[.slice A n q, .slice A' n' q'] 25)); have HX1 := hide (heap_alloc_new w1 (.cells #[.slice A n q, .slice A' n' q'] 25)); have hz1 := hw1.size; clear hin hw1)
    | (go_at_call 15; refine (HR.out _).mono ?_; rintro r w2 ⟨⟨B, m, c, B', m', c', rfl, hin⟩, hw2⟩; have HI2 := hide (hin.up ((Below.refl _ _).alloc (Nat.le_refl _) (.cells #[.slice B m c, .slice B' m' c'] 25))); have hbb := (show Below w2.heap.size w2 (w2.alloc (.cells #[.slice B m c, .slice B' m' c'] 25)) from (Below.refl _ _).alloc (Nat.le_refl _) _); have HI3 := hide (((HI1.out.up ((Below.refl _ _).alloc (Nat.le_refl _) (.cells #[.slice A n q, .slice A' n' q'] 25))).up hw2).up hbb); have HB2 := hide ((HB1.out.trans (hw2.mono HB1.out.size)).trans (hbb.mono (Nat.le_trans HB1.out.size hw2.size))); have HX2 := hide (block_below (block_below HX1.out hw2) hbb); have HX3 := hide (heap_alloc_new w2 (.cells #[.slice B m c, .slice B' m' c'] 25)); have x0 : w2.cell? ⟨w1.heap.size, 0, none⟩ = some (.slice A n q) := (block_cell (block_below HX1.out hw2) 0).trans rfl; have x1 : w2.cell? ⟨w1.heap.size, 1, none⟩ = some (.slice A' n' q') := (block_cell (block_below HX1.out hw2) 1).trans rfl; clear hin hw2 hbb)
    | (go_at_call 11; refine (HS.out _ _ _ _ _ _ _ _ _ _ _ _ _ HI3.out HI2.out).mono ?_; rintro r w3 ⟨rfl, hw3⟩; have hB3 := HB2.out.trans (hw3.mono HB2.out.size)))
  go_ret
  exact ⟨rfl, hB3⟩
end nameParses
end Go.Proofs.Ythlhiegbiapllaa
