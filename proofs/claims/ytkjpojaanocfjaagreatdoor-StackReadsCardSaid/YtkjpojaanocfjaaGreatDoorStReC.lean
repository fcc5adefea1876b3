/- Walks of read, Read and Guess (printed by gen_rx.py). -/
import Derived.Test.YtkjpojaanocfjaaGreatDoorStReB
namespace Go.Proofs.YtkjpojaanocfjaaGreatDoor
open Go.RowKit
set_option linter.unusedVariables false
set_option linter.unusedSimpArgs false
theorem Fts.low {B B' : Nat} {w : World} {v : Value} {l : List FaultT} (h : Fts B w v l) (hB : B' ≤ B) : Fts B' w v l := by
  refine ⟨⟨h.out.1, ?_⟩, h.ok, fun x hx => ?_⟩
  · rcases h.out.2 with h0 | ⟨g, cap, cur, h1, h2, h3⟩
    · exact .inl h0
    · exact .inr ⟨g, cap, cur, h1, by omega, h3⟩
  · rcases h.lies x hx with h0 | ⟨g, o, cs, e, hg, hc⟩
    · exact .inl h0
    · exact .inr ⟨g, o, cs, e, by omega, hc⟩
/-- The last byte of a string. -/
theorem last_byte {s : ByteArray} {m : Nat} (h : s.size = m + 1) : s.data.toList.getLast? = some (s[m]'(by omega)) := by
  have e : s.size - 1 = m := by omega
  rw [List.getLast?_eq_getElem?, len_size', e]
  rw [Array.getElem?_toList, Array.getElem?_eq_getElem (by show m < s.size; omega)]
  rfl
set_option maxRecDepth 100000 in
set_option maxHeartbeats 16000000 in
theorem read_any (s : ByteArray) (form : Int) (w : World) (hs : s.size ≤ 1000000) (hf : 1 ≤ form ∧ form ≤ 3) (hm : Mx w) :
    Calls Tryz.prog 10 #[.string s, .int .i64 form] w fun e w' => RdOut w.heap.size (rdA s form) e w' ∧ Below w.heap.size w w' := by
  have HNS := hide (newSource_any s w hs hm)
  have hpos := fun h : (rdR s form).2 = 0 => rdR_pos h
  have hlast := linT_last s
  have hA : rdA s form = if (rdR s form).2 = 0 ∧ emptyB (linT s) = false then ((rdR s form).1, (linL s).length + 1) else rdR s form := rfl
  have hR : rdR s form = rdR s form := rfl
  conv at hR => rhs; unfold rdR
  have hll : (linL s).length ≤ 1000000 := by rw [linL_len]; have := Lib.countB_le ⟨#[10]⟩ (by decide) _ s (Nat.le_refl _); omega
  obtain ⟨Q, hQ⟩ : ∃ Q, rdA s form = Q := ⟨_, rfl⟩
  obtain ⟨R, hRR⟩ : ∃ R, rdR s form = R := ⟨_, rfl⟩
  obtain ⟨m, hmm⟩ : ∃ m, (linL s).length = m := ⟨_, rfl⟩
  rw [hQ, hRR] at hA
  rw [hRR] at hpos hR
  rw [hQ]
  simp only [hmm] at hR hA hll HNS
  clear hm hQ hRR hmm
  obtain ⟨R1, R2⟩ := R
  simp only at hpos hA
  obtain hf1 | hf1 | hf1 : form = 1 ∨ form = 2 ∨ form = 3 := by omega
  · subst hf1
    simp only [if_true] at hR
    clear hf
    have hrd := fun W p c (H : Src p (some ⟨w.heap.size, 0, none⟩) m c (linL s) (linT s) 0 W) => readInner_any H
    have hrd : ∀ W p c, Src p (some ⟨w.heap.size, 0, none⟩) m c (linL s) (linT s) 0 W → Calls Tryz.prog 22 #[.pointer (some ⟨p, 0, none⟩)] W fun e w' => RdOut W.heap.size (R1, R2) e w' ∧ (∃ k, Src p (some ⟨w.heap.size, 0, none⟩) m c (linL s) (linT s) k w') ∧ ButAt p W w' := fun W p c H => by
      have h9 := hrd W p c H
      rw [H.sl.len, ← hR] at h9
      exact h9
    have HRD := hide hrd
    clear hrd hR
    by_cases h0 : R2 = 0
    · subst h0
      have hsp := hpos rfl
      obtain ⟨q, hq⟩ : ∃ q, s.size = q + 1 := ⟨s.size - 1, by omega⟩
      have hlb := last_byte hq
      rw [hlb] at hlast
      have hlast := hlast hsp
      have hqs : q < s.size := by omega
      have hqi : ((s.size : Int) - 1).toNat = q := by omega
      have hq0 : (0 : Int) ≤ (s.size : Int) - 1 := by omega
      have hq1 : (s.size : Int) - 1 < (s.size : Int) := by omega
      cases he : emptyB (linT s)
      · have hA2 : Q = (R1, m + 1) := by rw [hA, if_pos ⟨rfl, he⟩]
        have hby : ¬ (s[q]'hqs).toNat = 10 := fun h9 => by
          have h8 : emptyB (linT s) = true := hlast.2 (by rw [show s[q] = (10 : UInt8) from UInt8.toNat_inj.1 h9])
          rw [he] at h8; cases h8
        have hby2 : ¬ ((s[q]'hqs).toNat : Int) = 10 := by omega
        have E := hide hA2
        obtain ⟨y, hy⟩ : ∃ y, (s[q]'hqs).toNat = y := ⟨_, rfl⟩
        have HQ := hide hq
        clear hA hA2 he hlast hlb hpos
        go_enter Tryz.func10, Tryz.ntmps10
        go_wp2_with (first | (go_at_call 21; refine HNS.out.mono ?_; rintro e w1 ⟨p, c, rfl, hS1, hpw, hb1⟩; have HS1 := hide hS1; have HB1 := hide hb1; clear hS1 hb1) | (go_at_call 22; refine (HRD.out _ _ _ HS1.out).mono ?_; rintro e w2 ⟨⟨v, l, rfl, hF2, hl2⟩, ⟨k2, hS2⟩, hb2⟩; obtain ⟨A2, c2, rfl⟩ := own_sl hF2.out; have HB2 := hide (HB1.out.trans (hb2.be.mono hpw)); have HF2 := hide (hF2.low HB1.out.size); have HL2 := hide hl2; have HS2 := hide hS2; have s0 : w2.cell? ⟨p, 0, none⟩ = some (.slice (some ⟨w.heap.size, 0, none⟩) m c) := (block_cell HS2.out.box 0).trans rfl; clear hF2 hl2 hS2 hb2) | go_quiet (fail))
        refine bodyPost_ret (by simp [results, Tryz.results10, go_sem]; try rfl) rfl ?_
        exact ⟨⟨_, l, by rw [E.out] <;> rfl, HF2.out, by rw [E.out]; exact HL2.out⟩, HB2.out⟩
      · have hA2 : Q = (R1, 0) := by rw [hA, if_neg (fun h9 => by rw [he] at h9; exact absurd h9.2 (by decide))]
        have hby : (s[q]'hqs).toNat = 10 := by
          have h8 := Option.some.inj (hlast.1 he)
          rw [h8]; rfl
        have hby2 : ((s[q]'hqs).toNat : Int) = 10 := by omega
        have E := hide hA2
        obtain ⟨y, hy⟩ : ∃ y, (s[q]'hqs).toNat = y := ⟨_, rfl⟩
        have HQ := hide hq
        clear hA hA2 he hlast hlb hpos
        go_enter Tryz.func10, Tryz.ntmps10
        go_wp2_with (first | (go_at_call 21; refine HNS.out.mono ?_; rintro e w1 ⟨p, c, rfl, hS1, hpw, hb1⟩; have HS1 := hide hS1; have HB1 := hide hb1; clear hS1 hb1) | (go_at_call 22; refine (HRD.out _ _ _ HS1.out).mono ?_; rintro e w2 ⟨⟨v, l, rfl, hF2, hl2⟩, ⟨k2, hS2⟩, hb2⟩; obtain ⟨A2, c2, rfl⟩ := own_sl hF2.out; have HB2 := hide (HB1.out.trans (hb2.be.mono hpw)); have HF2 := hide (hF2.low HB1.out.size); have HL2 := hide hl2; have HS2 := hide hS2; have s0 : w2.cell? ⟨p, 0, none⟩ = some (.slice (some ⟨w.heap.size, 0, none⟩) m c) := (block_cell HS2.out.box 0).trans rfl; clear hF2 hl2 hS2 hb2) | go_quiet (fail))
        refine bodyPost_ret (by simp [results, Tryz.results10, go_sem]; try rfl) rfl ?_
        exact ⟨⟨_, l, by rw [E.out] <;> rfl, HF2.out, by rw [E.out]; exact HL2.out⟩, HB2.out⟩
    · have E := hide (show Q = (R1, R2) by rw [hA, if_neg (fun h9 => h0 h9.1)])
      clear hA hlast hpos
      have h0' : ¬ (R2 : Int) = 0 := by omega
      have h0'' : ((R2 : Int) == 0) = false := by rw [beq_eq_false_iff_ne]; exact h0'
      go_enter Tryz.func10, Tryz.ntmps10
      go_wp2_with (first | (go_at_call 21; refine HNS.out.mono ?_; rintro e w1 ⟨p, c, rfl, hS1, hpw, hb1⟩; have HS1 := hide hS1; have HB1 := hide hb1; clear hS1 hb1) | (go_at_call 22; refine (HRD.out _ _ _ HS1.out).mono ?_; rintro e w2 ⟨⟨v, l, rfl, hF2, hl2⟩, ⟨k2, hS2⟩, hb2⟩; obtain ⟨A2, c2, rfl⟩ := own_sl hF2.out; have HB2 := hide (HB1.out.trans (hb2.be.mono hpw)); have HF2 := hide (hF2.low HB1.out.size); have HL2 := hide hl2; have HS2 := hide hS2; have s0 : w2.cell? ⟨p, 0, none⟩ = some (.slice (some ⟨w.heap.size, 0, none⟩) m c) := (block_cell HS2.out.box 0).trans rfl; clear hF2 hl2 hS2 hb2) | go_quiet (fail))
      refine bodyPost_ret (by simp [results, Tryz.results10, go_sem]; try rfl) rfl ?_
      exact ⟨⟨_, l, by rw [E.out] <;> rfl, HF2.out, by rw [E.out]; exact HL2.out⟩, HB2.out⟩
  · subst hf1
    rw [if_neg (by decide), if_pos rfl] at hR
    clear hf
    have hrd := fun W p c (H : Src p (some ⟨w.heap.size, 0, none⟩) m c (linL s) (linT s) 0 W) => readOuter_any H
    have hrd : ∀ W p c, Src p (some ⟨w.heap.size, 0, none⟩) m c (linL s) (linT s) 0 W → Calls Tryz.prog 23 #[.pointer (some ⟨p, 0, none⟩)] W fun e w' => RdOut W.heap.size (R1, R2) e w' ∧ (∃ k, Src p (some ⟨w.heap.size, 0, none⟩) m c (linL s) (linT s) k w') ∧ ButAt p W w' := fun W p c H => by
      have h9 := hrd W p c H
      rw [H.sl.len, ← hR] at h9
      exact h9
    have HRD := hide hrd
    clear hrd hR
    by_cases h0 : R2 = 0
    · subst h0
      have hsp := hpos rfl
      obtain ⟨q, hq⟩ : ∃ q, s.size = q + 1 := ⟨s.size - 1, by omega⟩
      have hlb := last_byte hq
      rw [hlb] at hlast
      have hlast := hlast hsp
      have hqs : q < s.size := by omega
      have hqi : ((s.size : Int) - 1).toNat = q := by omega
      have hq0 : (0 : Int) ≤ (s.size : Int) - 1 := by omega
      have hq1 : (s.size : Int) - 1 < (s.size : Int) := by omega
      cases he : emptyB (linT s)
      · have hA2 : Q = (R1, m + 1) := by rw [hA, if_pos ⟨rfl, he⟩]
        have hby : ¬ (s[q]'hqs).toNat = 10 := fun h9 => by
          have h8 : emptyB (linT s) = true := hlast.2 (by rw [show s[q] = (10 : UInt8) from UInt8.toNat_inj.1 h9])
          rw [he] at h8; cases h8
        have hby2 : ¬ ((s[q]'hqs).toNat : Int) = 10 := by omega
        have E := hide hA2
        obtain ⟨y, hy⟩ : ∃ y, (s[q]'hqs).toNat = y := ⟨_, rfl⟩
        have HQ := hide hq
        clear hA hA2 he hlast hlb hpos
        go_enter Tryz.func10, Tryz.ntmps10
        go_wp2_with (first | (go_at_call 21; refine HNS.out.mono ?_; rintro e w1 ⟨p, c, rfl, hS1, hpw, hb1⟩; have HS1 := hide hS1; have HB1 := hide hb1; clear hS1 hb1) | (go_at_call 23; refine (HRD.out _ _ _ HS1.out).mono ?_; rintro e w2 ⟨⟨v, l, rfl, hF2, hl2⟩, ⟨k2, hS2⟩, hb2⟩; obtain ⟨A2, c2, rfl⟩ := own_sl hF2.out; have HB2 := hide (HB1.out.trans (hb2.be.mono hpw)); have HF2 := hide (hF2.low HB1.out.size); have HL2 := hide hl2; have HS2 := hide hS2; have s0 : w2.cell? ⟨p, 0, none⟩ = some (.slice (some ⟨w.heap.size, 0, none⟩) m c) := (block_cell HS2.out.box 0).trans rfl; clear hF2 hl2 hS2 hb2) | go_quiet (fail))
        refine bodyPost_ret (by simp [results, Tryz.results10, go_sem]; try rfl) rfl ?_
        exact ⟨⟨_, l, by rw [E.out] <;> rfl, HF2.out, by rw [E.out]; exact HL2.out⟩, HB2.out⟩
      · have hA2 : Q = (R1, 0) := by rw [hA, if_neg (fun h9 => by rw [he] at h9; exact absurd h9.2 (by decide))]
        have hby : (s[q]'hqs).toNat = 10 := by
          have h8 := Option.some.inj (hlast.1 he)
          rw [h8]; rfl
        have hby2 : ((s[q]'hqs).toNat : Int) = 10 := by omega
        have E := hide hA2
        obtain ⟨y, hy⟩ : ∃ y, (s[q]'hqs).toNat = y := ⟨_, rfl⟩
        have HQ := hide hq
        clear hA hA2 he hlast hlb hpos
        go_enter Tryz.func10, Tryz.ntmps10
        go_wp2_with (first | (go_at_call 21; refine HNS.out.mono ?_; rintro e w1 ⟨p, c, rfl, hS1, hpw, hb1⟩; have HS1 := hide hS1; have HB1 := hide hb1; clear hS1 hb1) | (go_at_call 23; refine (HRD.out _ _ _ HS1.out).mono ?_; rintro e w2 ⟨⟨v, l, rfl, hF2, hl2⟩, ⟨k2, hS2⟩, hb2⟩; obtain ⟨A2, c2, rfl⟩ := own_sl hF2.out; have HB2 := hide (HB1.out.trans (hb2.be.mono hpw)); have HF2 := hide (hF2.low HB1.out.size); have HL2 := hide hl2; have HS2 := hide hS2; have s0 : w2.cell? ⟨p, 0, none⟩ = some (.slice (some ⟨w.heap.size, 0, none⟩) m c) := (block_cell HS2.out.box 0).trans rfl; clear hF2 hl2 hS2 hb2) | go_quiet (fail))
        refine bodyPost_ret (by simp [results, Tryz.results10, go_sem]; try rfl) rfl ?_
        exact ⟨⟨_, l, by rw [E.out] <;> rfl, HF2.out, by rw [E.out]; exact HL2.out⟩, HB2.out⟩
    · have E := hide (show Q = (R1, R2) by rw [hA, if_neg (fun h9 => h0 h9.1)])
      clear hA hlast hpos
      have h0' : ¬ (R2 : Int) = 0 := by omega
      have h0'' : ((R2 : Int) == 0) = false := by rw [beq_eq_false_iff_ne]; exact h0'
      go_enter Tryz.func10, Tryz.ntmps10
      go_wp2_with (first | (go_at_call 21; refine HNS.out.mono ?_; rintro e w1 ⟨p, c, rfl, hS1, hpw, hb1⟩; have HS1 := hide hS1; have HB1 := hide hb1; clear hS1 hb1) | (go_at_call 23; refine (HRD.out _ _ _ HS1.out).mono ?_; rintro e w2 ⟨⟨v, l, rfl, hF2, hl2⟩, ⟨k2, hS2⟩, hb2⟩; obtain ⟨A2, c2, rfl⟩ := own_sl hF2.out; have HB2 := hide (HB1.out.trans (hb2.be.mono hpw)); have HF2 := hide (hF2.low HB1.out.size); have HL2 := hide hl2; have HS2 := hide hS2; have s0 : w2.cell? ⟨p, 0, none⟩ = some (.slice (some ⟨w.heap.size, 0, none⟩) m c) := (block_cell HS2.out.box 0).trans rfl; clear hF2 hl2 hS2 hb2) | go_quiet (fail))
      refine bodyPost_ret (by simp [results, Tryz.results10, go_sem]; try rfl) rfl ?_
      exact ⟨⟨_, l, by rw [E.out] <;> rfl, HF2.out, by rw [E.out]; exact HL2.out⟩, HB2.out⟩
  · subst hf1
    rw [if_neg (by decide), if_neg (by decide)] at hR
    clear hf
    have hrd := fun W p c (H : Src p (some ⟨w.heap.size, 0, none⟩) m c (linL s) (linT s) 0 W) => readPairs_any H
    have hrd : ∀ W p c, Src p (some ⟨w.heap.size, 0, none⟩) m c (linL s) (linT s) 0 W → Calls Tryz.prog 24 #[.pointer (some ⟨p, 0, none⟩)] W fun e w' => RdOut W.heap.size (R1, R2) e w' ∧ (∃ k, Src p (some ⟨w.heap.size, 0, none⟩) m c (linL s) (linT s) k w') ∧ ButAt p W w' := fun W p c H => by
      have h9 := hrd W p c H
      rw [H.sl.len, ← hR] at h9
      exact h9
    have HRD := hide hrd
    clear hrd hR
    by_cases h0 : R2 = 0
    · subst h0
      have hsp := hpos rfl
      obtain ⟨q, hq⟩ : ∃ q, s.size = q + 1 := ⟨s.size - 1, by omega⟩
      have hlb := last_byte hq
      rw [hlb] at hlast
      have hlast := hlast hsp
      have hqs : q < s.size := by omega
      have hqi : ((s.size : Int) - 1).toNat = q := by omega
      have hq0 : (0 : Int) ≤ (s.size : Int) - 1 := by omega
      have hq1 : (s.size : Int) - 1 < (s.size : Int) := by omega
      cases he : emptyB (linT s)
      · have hA2 : Q = (R1, m + 1) := by rw [hA, if_pos ⟨rfl, he⟩]
        have hby : ¬ (s[q]'hqs).toNat = 10 := fun h9 => by
          have h8 : emptyB (linT s) = true := hlast.2 (by rw [show s[q] = (10 : UInt8) from UInt8.toNat_inj.1 h9])
          rw [he] at h8; cases h8
        have hby2 : ¬ ((s[q]'hqs).toNat : Int) = 10 := by omega
        have E := hide hA2
        obtain ⟨y, hy⟩ : ∃ y, (s[q]'hqs).toNat = y := ⟨_, rfl⟩
        have HQ := hide hq
        clear hA hA2 he hlast hlb hpos
        go_enter Tryz.func10, Tryz.ntmps10
        go_wp2_with (first | (go_at_call 21; refine HNS.out.mono ?_; rintro e w1 ⟨p, c, rfl, hS1, hpw, hb1⟩; have HS1 := hide hS1; have HB1 := hide hb1; clear hS1 hb1) | (go_at_call 24; refine (HRD.out _ _ _ HS1.out).mono ?_; rintro e w2 ⟨⟨v, l, rfl, hF2, hl2⟩, ⟨k2, hS2⟩, hb2⟩; obtain ⟨A2, c2, rfl⟩ := own_sl hF2.out; have HB2 := hide (HB1.out.trans (hb2.be.mono hpw)); have HF2 := hide (hF2.low HB1.out.size); have HL2 := hide hl2; have HS2 := hide hS2; have s0 : w2.cell? ⟨p, 0, none⟩ = some (.slice (some ⟨w.heap.size, 0, none⟩) m c) := (block_cell HS2.out.box 0).trans rfl; clear hF2 hl2 hS2 hb2) | go_quiet (fail))
        refine bodyPost_ret (by simp [results, Tryz.results10, go_sem]; try rfl) rfl ?_
        exact ⟨⟨_, l, by rw [E.out] <;> rfl, HF2.out, by rw [E.out]; exact HL2.out⟩, HB2.out⟩
      · have hA2 : Q = (R1, 0) := by rw [hA, if_neg (fun h9 => by rw [he] at h9; exact absurd h9.2 (by decide))]
        have hby : (s[q]'hqs).toNat = 10 := by
          have h8 := Option.some.inj (hlast.1 he)
          rw [h8]; rfl
        have hby2 : ((s[q]'hqs).toNat : Int) = 10 := by omega
        have E := hide hA2
        obtain ⟨y, hy⟩ : ∃ y, (s[q]'hqs).toNat = y := ⟨_, rfl⟩
        have HQ := hide hq
        clear hA hA2 he hlast hlb hpos
        go_enter Tryz.func10, Tryz.ntmps10
        go_wp2_with (first | (go_at_call 21; refine HNS.out.mono ?_; rintro e w1 ⟨p, c, rfl, hS1, hpw, hb1⟩; have HS1 := hide hS1; have HB1 := hide hb1; clear hS1 hb1) | (go_at_call 24; refine (HRD.out _ _ _ HS1.out).mono ?_; rintro e w2 ⟨⟨v, l, rfl, hF2, hl2⟩, ⟨k2, hS2⟩, hb2⟩; obtain ⟨A2, c2, rfl⟩ := own_sl hF2.out; have HB2 := hide (HB1.out.trans (hb2.be.mono hpw)); have HF2 := hide (hF2.low HB1.out.size); have HL2 := hide hl2; have HS2 := hide hS2; have s0 : w2.cell? ⟨p, 0, none⟩ = some (.slice (some ⟨w.heap.size, 0, none⟩) m c) := (block_cell HS2.out.box 0).trans rfl; clear hF2 hl2 hS2 hb2) | go_quiet (fail))
        refine bodyPost_ret (by simp [results, Tryz.results10, go_sem]; try rfl) rfl ?_
        exact ⟨⟨_, l, by rw [E.out] <;> rfl, HF2.out, by rw [E.out]; exact HL2.out⟩, HB2.out⟩
    · have E := hide (show Q = (R1, R2) by rw [hA, if_neg (fun h9 => h0 h9.1)])
      clear hA hlast hpos
      have h0' : ¬ (R2 : Int) = 0 := by omega
      have h0'' : ((R2 : Int) == 0) = false := by rw [beq_eq_false_iff_ne]; exact h0'
      go_enter Tryz.func10, Tryz.ntmps10
      go_wp2_with (first | (go_at_call 21; refine HNS.out.mono ?_; rintro e w1 ⟨p, c, rfl, hS1, hpw, hb1⟩; have HS1 := hide hS1; have HB1 := hide hb1; clear hS1 hb1) | (go_at_call 24; refine (HRD.out _ _ _ HS1.out).mono ?_; rintro e w2 ⟨⟨v, l, rfl, hF2, hl2⟩, ⟨k2, hS2⟩, hb2⟩; obtain ⟨A2, c2, rfl⟩ := own_sl hF2.out; have HB2 := hide (HB1.out.trans (hb2.be.mono hpw)); have HF2 := hide (hF2.low HB1.out.size); have HL2 := hide hl2; have HS2 := hide hS2; have s0 : w2.cell? ⟨p, 0, none⟩ = some (.slice (some ⟨w.heap.size, 0, none⟩) m c) := (block_cell HS2.out.box 0).trans rfl; clear hF2 hl2 hS2 hb2) | go_quiet (fail))
      refine bodyPost_ret (by simp [results, Tryz.results10, go_sem]; try rfl) rfl ?_
      exact ⟨⟨_, l, by rw [E.out] <;> rfl, HF2.out, by rw [E.out]; exact HL2.out⟩, HB2.out⟩
theorem Fts.sl {B : Nat} {w : World} {A : Option Addr} {n c : Nat} {l : List FaultT} (h : Fts B w (.slice A n c) l) : n = l.length ∧ Sl w w.heap.size FaultT.cs 3 A l.length l ∧ l.length ≤ maxLen := by
  obtain ⟨A', c', e, hsl, hlc, hc⟩ := sl_of_own FaultT.cs_len rfl h.out
  simp at e
  obtain ⟨rfl, rfl, rfl⟩ := e
  refine ⟨rfl, hsl, ?_⟩
  rcases hc with hc | hc
  · rw [hc]; exact Nat.zero_le _
  · omega
/-- What Read answers, in memory. -/
def RxOut (B : Nat) (X : List Flt × Nat × Int) (e : Ending) (w' : World) : Prop := ∃ v l, e = .returned (.tuple #[v, .int .i64 (X.2.1 : Nat), .int .i64 X.2.2]) ∧ Fts B w' v l ∧ l.map FaultT.flt = X.1
set_option maxRecDepth 100000 in
set_option maxHeartbeats 16000000 in
theorem Read_any (s : ByteArray) (form : Int) (w : World) (hm : Mx w) :
    Calls Tryz.prog 4 #[.string s, .int .i64 form] w fun e w' => RxOut w.heap.size (rdX s form) e w' ∧ Below w.heap.size w w' := by
  have hX : rdX s form = rdX s form := rfl
  conv at hX => rhs; unfold rdX
  obtain ⟨X, hXX⟩ : ∃ X, rdX s form = X := ⟨_, rfl⟩
  rw [hXX] at hX ⊢
  clear hXX
  by_cases h1 : 1000000 < s.size
  · have E := hide (show X = ([], 0, 4) by rw [hX, if_pos h1])
    have h1' : (1000000 : Int) < (s.size : Int) := by omega
    clear hX
    go_enter Tryz.func4, Tryz.ntmps4
    go_wp2_with (fail)
    refine bodyPost_ret (by simp [results, Tryz.results4, go_sem]; try rfl) rfl ?_
    exact ⟨⟨_, [], by rw [E.out] <;> rfl, Fts.nil _ _, by rw [E.out] <;> rfl⟩, Below.refl _ _⟩
  · rw [if_neg h1] at hX
    have h1' : ¬ (1000000 : Int) < (s.size : Int) := by omega
    have HO := hide (fun W => outside_any form 1 3 W)
    by_cases h2 : form < 1 ∨ 3 < form
    · have E := hide (show X = ([], 0, 10) by rw [hX, if_pos h2])
      have ho : outsideB form 1 3 = true := by unfold outsideB; simp; exact h2
      rw [ho] at HO
      clear hX
      go_enter Tryz.func4, Tryz.ntmps4
      go_wp2_with (go_at_call 9; refine (HO.out _).mono ?_; rintro e w1 ⟨rfl, rfl⟩)
      refine bodyPost_ret (by simp [results, Tryz.results4, go_sem]; try rfl) rfl ?_
      exact ⟨⟨_, [], by rw [E.out] <;> rfl, Fts.nil _ _, by rw [E.out] <;> rfl⟩, Below.refl _ _⟩
    · rw [if_neg h2] at hX
      have ho : outsideB form 1 3 = false := by unfold outsideB; simp; omega
      rw [ho] at HO
      have HRD := hide (read_any s form w (by omega) (by omega) hm)
      obtain ⟨Q, hQ⟩ : ∃ Q, rdA s form = Q := ⟨_, rfl⟩
      rw [hQ] at hX HRD
      clear hQ hm
      obtain ⟨Q1, Q2⟩ := Q
      simp only at hX
      by_cases h3 : 0 < Q2
      · have E := hide (show X = ([], Q2, 8) by rw [hX, if_pos h3])
        have h3' : (0 : Int) < (Q2 : Int) := by omega
        clear hX
        go_enter Tryz.func4, Tryz.ntmps4
        go_wp2_with (first | (go_at_call 9; refine (HO.out _).mono ?_; rintro e w1 ⟨rfl, rfl⟩) | (go_at_call 10; refine HRD.out.mono ?_; rintro e w2 ⟨⟨v, l, rfl, hF2, hl2⟩, hb2⟩; obtain ⟨A2, c2, rfl⟩ := own_sl hF2.out; have HB2 := hide hb2; clear hF2 hl2 hb2))
        refine bodyPost_ret (by simp [results, Tryz.results4, go_sem]; try rfl) rfl ?_
        exact ⟨⟨_, [], by rw [E.out] <;> rfl, Fts.nil _ _, by rw [E.out] <;> rfl⟩, HB2.out⟩
      · rw [if_neg h3] at hX
        obtain rfl : Q2 = 0 := by omega
        obtain ⟨l0, hl0⟩ : ∃ l0, Q1.getD [] = l0 := ⟨_, rfl⟩
        rw [hl0] at hX
        obtain ⟨er, her⟩ : ∃ er, errF l0 = er := ⟨_, rfl⟩
        rw [her] at hX
        have HER := hide her
        have HL0 := hide hl0
        clear her hl0
        by_cases h4 : er = 0
        · have E := hide (show X = (l0, 0, 0) by rw [hX, if_pos h4])
          have HE0 := hide h4
          clear hX h4
          go_enter Tryz.func4, Tryz.ntmps4
          go_wp2_with (first | (go_at_call 9; refine (HO.out _).mono ?_; rintro e w1 ⟨rfl, rfl⟩) | (go_at_call 10; refine HRD.out.mono ?_; rintro e w2 ⟨⟨v, l, rfl, hF2, hl2⟩, hb2⟩; obtain ⟨A2, c2, rfl⟩ := own_sl hF2.out; have HB2 := hide hb2; have HF2 := hide hF2; have HL2 := hide (hl2.trans HL0.out); clear hF2 hl2 hb2; have hck := fun cc => Check_any A2 l.length cc l w2 HF2.out.sl.2.2 HF2.out.sl.2.1 HF2.out.ok; rw [errF_map, HL2.out, HER.out, HE0.out] at hck; have HCK := hide hck; clear hck) | (go_at_call 11; refine (HCK.out _).mono ?_; rintro e w3 ⟨rfl, hb3⟩; have HF3 := hide (HF2.out.below hb3); have HB3 := hide (HB2.out.trans (hb3.mono HB2.out.size)); clear hb3))
          refine bodyPost_ret (by simp [results, Tryz.results4, go_sem]; try rfl) rfl ?_
          exact ⟨⟨_, l, by rw [E.out] <;> rfl, HF3.out, by rw [E.out]; exact HL2.out⟩, HB3.out⟩
        · have E := hide (show X = ([], 0, er) by rw [hX, if_neg h4])
          clear hX
          have h4' : (er == 0) = false := by rw [beq_eq_false_iff_ne]; exact h4
          go_enter Tryz.func4, Tryz.ntmps4
          go_wp2_with (first | (go_at_call 9; refine (HO.out _).mono ?_; rintro e w1 ⟨rfl, rfl⟩) | (go_at_call 10; refine HRD.out.mono ?_; rintro e w2 ⟨⟨v, l, rfl, hF2, hl2⟩, hb2⟩; obtain ⟨A2, c2, rfl⟩ := own_sl hF2.out; have HB2 := hide hb2; have HF2 := hide hF2; have HL2 := hide (hl2.trans HL0.out); clear hF2 hl2 hb2; have hck := fun cc => Check_any A2 l.length cc l w2 HF2.out.sl.2.2 HF2.out.sl.2.1 HF2.out.ok; rw [errF_map, HL2.out, HER.out] at hck; have HCK := hide hck; clear hck) | (go_at_call 11; refine (HCK.out _).mono ?_; rintro e w3 ⟨rfl, hb3⟩; have HB3 := hide (HB2.out.trans (hb3.mono HB2.out.size)); clear hb3))
          refine bodyPost_ret (by simp [results, Tryz.results4, go_sem]; try rfl) rfl ?_
          exact ⟨⟨_, [], by rw [E.out] <;> rfl, Fts.nil _ _, by rw [E.out] <;> rfl⟩, HB3.out⟩
/-- The form that is guessed. -/
def guR (s : ByteArray) : Nat → Int
  | 0 => 0
  | r + 1 => if (rdX s ((3 : Int) - (r : Int))).2.2 = 0 then (3 : Int) - (r : Int) else guR s r
set_option maxRecDepth 100000 in
set_option maxHeartbeats 16000000 in
theorem Guess_any (s : ByteArray) (w : World) (hm : Mx w) :
    Calls Tryz.prog 7 #[.string s] w fun e w' => e = .returned (.int .i64 (guR s 3)) ∧ Below w.heap.size w w' := by
  have HM := hide hm
  obtain ⟨G, hG⟩ : ∃ G, guR s 3 = G := ⟨_, rfl⟩
  have HG := hide hG
  rw [hG]
  clear hG hm
  have i0 : ∀ w, (Instr.index 45 (.agg #[.int .i64 1, .int .i64 2, .int .i64 3]) (.int .i64 0)).run Tryz.prog w = .ok (.int .i64 1) w := fun _ => by kernel_rfl
  have i1 : ∀ w, (Instr.index 45 (.agg #[.int .i64 1, .int .i64 2, .int .i64 3]) (.int .i64 1)).run Tryz.prog w = .ok (.int .i64 2) w := fun _ => by kernel_rfl
  have i2 : ∀ w, (Instr.index 45 (.agg #[.int .i64 1, .int .i64 2, .int .i64 3]) (.int .i64 2)).run Tryz.prog w = .ok (.int .i64 3) w := fun _ => by kernel_rfl
  go_enter Tryz.func7, Tryz.ntmps7
  go_wp2_with (fail)
  go_loopw [11] (fun i wr => ∃ j : Nat, j ≤ 3 ∧ i = .int .i64 ((j : Int)) ∧ Below w.heap.size w wr ∧ guR s (3 - j) = G) (fun i _ => 4 - (intOf i).toNat)
  case atStart => exact ⟨0, by omega, rfl, by first | exact Below.refl _ _ | exact (Below.refl _ _).alloc (Nat.le_refl _) _, HG.out⟩
  case round =>
    obtain ⟨j, hj, rfl, hB, hg⟩ := hrel
    have HB := hide hB
    have HGJ := hide hg
    have hz := hB.size
    clear hB hg
    have hjj : j = 0 ∨ j = 1 ∨ j = 2 ∨ j = 3 := by omega
    rcases hjj with rfl | rfl | rfl | rfl
    · have hg : guR s 3 = if (rdX s 1).2.2 = 0 then 1 else guR s 2 := by rw [guR]; rfl
      have HRD := hide (Read_any s 1 wr (HM.out.up HB.out (Nat.le_refl _)))
      obtain ⟨X, hX⟩ : ∃ X, rdX s 1 = X := ⟨_, rfl⟩
      rw [hX] at hg HRD
      clear hX
      obtain ⟨X1, X2, er⟩ := X
      simp only at hg
      by_cases h0 : er = 0
      · have E := hide (show G = 1 by rw [← HGJ.out]; exact hg.trans (if_pos h0))
        subst h0
        clear hg
        go_wp2_with (go_at_call 4; refine HRD.out.mono ?_; rintro e w2 ⟨⟨v, l, rfl, hF2, hl2⟩, hb2⟩; obtain ⟨A2, c2, rfl⟩ := own_sl hF2.out; have HB2 := hide (HB.out.trans (hb2.mono HB.out.size)); clear hF2 hl2 hb2)
        go_ret
        exact ⟨by rw [E.out] <;> rfl, HB2.out⟩
      · have E := hide (show guR s 2 = G by rw [← HGJ.out]; exact (hg.trans (if_neg h0)).symm)
        have h0' : (er == 0) = false := by rw [beq_eq_false_iff_ne]; exact h0
        clear hg
        go_wp2_with (go_at_call 4; refine HRD.out.mono ?_; rintro e w2 ⟨⟨v, l, rfl, hF2, hl2⟩, hb2⟩; obtain ⟨A2, c2, rfl⟩ := own_sl hF2.out; have HB2 := hide (HB.out.trans (hb2.mono HB.out.size)); clear hF2 hl2 hb2)
        go_roundw
        case rel => exact ⟨1, by omega, rfl, HB2.out, E.out⟩
        case measure => simp [intOf]
    · have hg : guR s 2 = if (rdX s 2).2.2 = 0 then 2 else guR s 1 := by rw [guR]; rfl
      have HRD := hide (Read_any s 2 wr (HM.out.up HB.out (Nat.le_refl _)))
      obtain ⟨X, hX⟩ : ∃ X, rdX s 2 = X := ⟨_, rfl⟩
      rw [hX] at hg HRD
      clear hX
      obtain ⟨X1, X2, er⟩ := X
      simp only at hg
      by_cases h0 : er = 0
      · have E := hide (show G = 2 by rw [← HGJ.out]; exact hg.trans (if_pos h0))
        subst h0
        clear hg
        go_wp2_with (go_at_call 4; refine HRD.out.mono ?_; rintro e w2 ⟨⟨v, l, rfl, hF2, hl2⟩, hb2⟩; obtain ⟨A2, c2, rfl⟩ := own_sl hF2.out; have HB2 := hide (HB.out.trans (hb2.mono HB.out.size)); clear hF2 hl2 hb2)
        go_ret
        exact ⟨by rw [E.out] <;> rfl, HB2.out⟩
      · have E := hide (show guR s 1 = G by rw [← HGJ.out]; exact (hg.trans (if_neg h0)).symm)
        have h0' : (er == 0) = false := by rw [beq_eq_false_iff_ne]; exact h0
        clear hg
        go_wp2_with (go_at_call 4; refine HRD.out.mono ?_; rintro e w2 ⟨⟨v, l, rfl, hF2, hl2⟩, hb2⟩; obtain ⟨A2, c2, rfl⟩ := own_sl hF2.out; have HB2 := hide (HB.out.trans (hb2.mono HB.out.size)); clear hF2 hl2 hb2)
        go_roundw
        case rel => exact ⟨2, by omega, rfl, HB2.out, E.out⟩
        case measure => simp [intOf]
    · have hg : guR s 1 = if (rdX s 3).2.2 = 0 then 3 else guR s 0 := by rw [guR]; rfl
      have HRD := hide (Read_any s 3 wr (HM.out.up HB.out (Nat.le_refl _)))
      obtain ⟨X, hX⟩ : ∃ X, rdX s 3 = X := ⟨_, rfl⟩
      rw [hX] at hg HRD
      clear hX
      obtain ⟨X1, X2, er⟩ := X
      simp only at hg
      by_cases h0 : er = 0
      · have E := hide (show G = 3 by rw [← HGJ.out]; exact hg.trans (if_pos h0))
        subst h0
        clear hg
        go_wp2_with (go_at_call 4; refine HRD.out.mono ?_; rintro e w2 ⟨⟨v, l, rfl, hF2, hl2⟩, hb2⟩; obtain ⟨A2, c2, rfl⟩ := own_sl hF2.out; have HB2 := hide (HB.out.trans (hb2.mono HB.out.size)); clear hF2 hl2 hb2)
        go_ret
        exact ⟨by rw [E.out] <;> rfl, HB2.out⟩
      · have E := hide (show guR s 0 = G by rw [← HGJ.out]; exact (hg.trans (if_neg h0)).symm)
        have h0' : (er == 0) = false := by rw [beq_eq_false_iff_ne]; exact h0
        clear hg
        go_wp2_with (go_at_call 4; refine HRD.out.mono ?_; rintro e w2 ⟨⟨v, l, rfl, hF2, hl2⟩, hb2⟩; obtain ⟨A2, c2, rfl⟩ := own_sl hF2.out; have HB2 := hide (HB.out.trans (hb2.mono HB.out.size)); clear hF2 hl2 hb2)
        go_roundw
        case rel => exact ⟨3, by omega, rfl, HB2.out, E.out⟩
        case measure => simp [intOf]
    · have E := hide (show G = 0 by rw [← HGJ.out]; rfl)
      go_wp2_with (fail)
      go_ret
      exact ⟨by rw [E.out] <;> rfl, HB.out⟩
end Go.Proofs.YtkjpojaanocfjaaGreatDoor
