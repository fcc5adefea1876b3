/- GtCln, GtNew, GtNeB, GtGp, GtAk, GtVs: texts of one's own, in one file. -/
import Derived.Test.YtkkhjlomicokgaaGreatDoorTpD
import Derived.Test.YtkkhjlomicokgaaGreatDoorTpA
import Derived.Lib.SliceRun
import Derived.Test.YtkkhjlomicokgaaGreatDoorGtRat
import Derived.Test.YtkkhjlomicokgaaGreatDoorTpB
import Derived.Deep.Onto
import Derived.Test.YtkkhjlomicokgaaGreatDoorTpE
import Derived.Test.YtkkhjlomicokgaaGreatDoorTpF
/- slices.Clone of quotas. -/
namespace Go.Proofs.YtkkhjlomicokgaaGreatDoor
open Go.RowKit
set_option linter.unusedVariables false
set_option linter.unusedSimpArgs false
theorem info_quota : (Tryz.prog.info? 67).map (fun i => (i.zero, i.size, i.bytes)) = some (some (.agg #[.string ByteArray.empty, .string ByteArray.empty, .int .i64 0, .int .i64 0, .int .i64 0]), 5, 56) := by kernel_rfl
theorem qt_news {w : World} {B n : Nat} {ad : Addr} {l : List Qt} (h : Sl w B Qt.cs 5 (some ad) n l) : ∀ j u, (l.flatMap Qt.cs)[j]? = some u → w.cell? (ad.add j) = some u := by
  rcases Nat.eq_zero_or_pos n with h0 | h0
  · have : l = [] := List.eq_nil_of_length_eq_zero (by rw [h.len]; exact h0)
    subst this
    intro j u hu
    simp at hu
  · obtain ⟨b, o, e, _⟩ := h.cells h0
    obtain rfl := Option.some.inj e
    exact Sl.news (fun _ => rfl) h
theorem qt_one (l : List Qt) : ∀ u ∈ l.flatMap Qt.cs, u.oneCell' = true := by
  intro u hu
  obtain ⟨x, _, hx⟩ := List.mem_flatMap.1 hu
  simp [Qt.cs] at hx
  rcases hx with rfl | rfl | rfl | rfl | rfl <;> rfl
set_option maxRecDepth 100000 in
set_option maxHeartbeats 1000000 in
theorem CloneQt_any (A : Option Addr) (n c : Nat) (l : List Qt) (w : World) (hn : n ≤ 1000) (hl : Sl w w.heap.size Qt.cs 5 A n l) :
    Calls Tryz.prog 17 #[.slice A n c] w fun e w' => ∃ v, e = .returned v ∧ w'.ownsRow w.heap.size 67 5 v n (l.flatMap Qt.cs) ∧ Below w.heap.size w w' := by
  have HL := hide hl.len
  have q : ∀ (w : World) (a : Option Addr) (n c n' c' : Nat), (binOp .eql 22 (.slice a n c) (.slice none n' c')).run Tryz.prog w = .ok (.bool a.isNone) w := fun w a n c n' c' => Lib.run_eql_slice_nil w _ _ a n c n' c' Tryz.underlying22
  obtain ⟨i0, hi0, iz0, iz1, iz2⟩ := info_parts info_quota
  cases A with
  | none =>
    have h0 : n = 0 := by
      rcases Nat.eq_zero_or_pos n with h0 | h0
      · exact h0
      · obtain ⟨b, o, e, _⟩ := hl.cells h0; cases e
    subst h0
    obtain rfl : l = [] := List.eq_nil_of_length_eq_zero HL.out
    go_enter Tryz.func17, Tryz.ntmps17
    go_wp2_with (fail)
    go_ret
    exact ⟨_, rfl, World.ownsRow_nil _ _ _ _, Below.refl _ _⟩
  | some ad =>
    have hnew := hide (qt_news (Sl.up hl ((Below.refl _ _).alloc (Nat.le_refl _) (.cells #[] 67))))
    have hB : Below w.heap.size w (w.alloc (.cells #[] 67)) := (Below.refl _ _).alloc (Nat.le_refl _) _
    have HB := hide hB
    clear hB
    go_enter Tryz.func17, Tryz.ntmps17
    go_wp2_with (at_builtin; refine wpList_append_own _ rfl (.tmp 5) (.tmp 6) 22 rfl w.heap.size 67 i0 (.agg #[.string ByteArray.empty, .string ByteArray.empty, .int .i64 0, .int .i64 0, .int .i64 0]) 5 56 Tryz.underlying22 hi0 iz0 iz1 iz2 rfl (by decide) _ 0 _ (by rfl) (World.ownsRow_lit w #[] 0 (Nat.le_refl _) (Nat.zero_le _) rfl) ad n _ (l.flatMap Qt.cs) (by rfl) (by rw [flatMap_len (sz := 5) (fun _ => rfl), HL.out]) hnew.out (qt_one _) (by unfold maxLen; omega) (by omega) HB.out.size ?_; intro v' w5 hown5 hg5 _; have hB5 : Below w.heap.size w w5 := Below.grown HB.out hg5 HB.out.size (fun j hj => by simp [Value.ownBlock] at hj; omega); clear hg5)
    go_ret
    have hown6 : w5.ownsRow w.heap.size 67 5 v' n (l.flatMap Qt.cs) := by simpa using hown5
    exact ⟨v', rfl, hown6, hB5⟩
end Go.Proofs.YtkkhjlomicokgaaGreatDoor

/- NewGate of the program. -/
namespace Go.Proofs.YtkkhjlomicokgaaGreatDoor
open Go.RowKit Go.Maps
set_option linter.unusedVariables false
set_option linter.unusedSimpArgs false
def newE (Q : List Qt) (RT : List RtK) (t : Int) : Int := if qtErr Q = 0 then (if rtErr RT = 0 then (if outsideB t 0 3155759999 then 2 else 0) else rtErr RT) else qtErr Q
/-- A gate that was made. -/
structure Made (w w' : World) (Q : List Qt) (RT : List RtK) (t : Int) (p n qc lc rb tb m : Nat) (qA lA : Option Addr) (RD : DataW Unit) : Prop where
  box : w'.heap[p]? = some (.cells #[.slice qA n qc, .slice lA n lc, .map (some rb), .int .i64 t, .map (some tb)] 72 (0, 0))
  quo : w'.ownsRow w.heap.size 67 5 (.slice qA n qc) n (Q.flatMap Qt.cs)
  lev : w'.ownsRow w.heap.size 76 3 (.slice lA n lc) n ((Q.map (fullL t)).flatMap Lv.cs)
  rat : w'.ownsMap Tryz.prog 9 (plainElem Tryz.prog 3) rb m RD
  rds : MapR RD RT
  tal : w'.ownsMap Tryz.prog 98 (plainElem Tryz.prog 3) tb 0 (DataW.map (H := Unit) [])
  pl : w.heap.size ≤ p
  rl : w.heap.size ≤ rb
  tl : w.heap.size ≤ tb
  ne : rb ≠ tb
  be : Below w.heap.size w w'
theorem info_levelN : (Tryz.prog.info? 76).map (fun i => (i.zero, i.size, i.bytes)) = some (some (.agg #[.int .i64 0, .int .i64 0, .int .i64 0]), 3, 24) := by kernel_rfl
set_option maxRecDepth 100000 in
set_option maxHeartbeats 8000000 in
theorem NewGate_ok (n qc0 rn rc : Nat) (qA0 rA : Option Addr) (Q : List Qt) (RT : List RtK) (t : Int) (w : World) (hn : n ≤ maxLen) (hq : Sl w w.heap.size Qt.cs 5 qA0 n Q) (hqf : QtFit Q) (hrn : rn ≤ maxLen) (hr : Sl w w.heap.size RtK.cs 2 rA rn RT) (hrf : RkFit RT) (hE : newE Q RT t = 0) :
    Calls Tryz.prog 5 #[.slice qA0 n qc0, .slice rA rn rc, .int .i64 t] w fun e w' => ∃ p qc lc rb tb m qA lA RD, e = .returned (.tuple #[.pointer (some ⟨p, 0, none⟩), .int .i64 0]) ∧ Made w w' Q RT t p n qc lc rb tb m qA lA RD := by
  have hql := hq.len
  have h1 : qtErr Q = 0 := by
    unfold newE at hE
    split at hE
    · assumption
    · exact hE
  have h2 : rtErr RT = 0 := by
    unfold newE at hE
    rw [if_pos h1] at hE
    split at hE
    · assumption
    · exact hE
  have h3 : outsideB t 0 3155759999 = false := by
    unfold newE at hE
    rw [if_pos h1, if_pos h2] at hE
    split at hE
    · cases hE
    · rename_i h; simpa using h
  have hn50 : n ≤ 50 := by
    by_cases h : 50 < Q.length
    · rw [qtErr, if_pos h] at h1; cases h1
    · omega
  obtain ⟨i0, hi0, iz0, iz1, iz2⟩ := info_parts info_levelN
  have HC := hide (h1 ▸ CheckQuotas_any qA0 n qc0 Q w hn hq hqf)
  have HL := hide (fun (W : World) (h : Below w.heap.size w W) => CloneQt_any qA0 n qc0 Q W (by omega) (Sl.up hq h))
  have HM := hide (fun W => isMoment_any t W)
  rw [h3] at HM
  have HQ := hide hq
  have HR := hide hr
  have H2 := hide h2
  have hmm := @run_makeMap Tryz.prog
  clear h1 h2 h3 hE hq hr
  go_enter Tryz.func5, Tryz.ntmps5
  go_wp2_with (first | (go_at_call 16; refine HC.out.mono ?_; rintro e w1 ⟨rfl, hw1⟩; have HW1 := hide hw1; clear hw1) | (go_at_call 17; refine (HL.out _ HW1.out).mono ?_; rintro e w2 ⟨v, rfl, hown, hw2⟩; obtain ⟨qA, qc, rfl⟩ := own_sl hown; have HO := hide hown; have HW2 := hide (HW1.out.trans (hw2.mono HW1.out.size)); have hz12 := hw2.size; clear hown hw2) )
  clear hmm
  have hz2 := HW2.out.size
  obtain ⟨p, hp⟩ : ∃ p, w2.heap.size + 1 = p := ⟨_, rfl⟩
  obtain ⟨tb, htb⟩ : ∃ tb, w2.heap.size = tb := ⟨_, rfl⟩
  obtain ⟨wb, hwb, hbb, hsb, hb1, hb2⟩ : ∃ wb, (w2.alloc (.map #[] 0)).alloc (.cells #[.slice qA n qc, .slice none 0 0, .map none, .int .i64 t, .map (some tb)] 72) = wb ∧ Below w2.heap.size w2 wb ∧ wb.heap.size = w2.heap.size + 2 ∧ wb.heap[p]? = some (.cells #[.slice qA n qc, .slice none 0 0, .map none, .int .i64 t, .map (some tb)] 72 (0, 0)) ∧ wb.ownsMap Tryz.prog 98 (plainElem Tryz.prog 3) tb 0 (DataW.map (H := Unit) []) :=
    ⟨_, rfl, ((Below.refl _ _).alloc (Nat.le_refl _) _).alloc (by simp) _, by simp, by
      have h := heap_alloc_new (w2.alloc (.map #[] 0)) (.cells #[.slice qA n qc, .slice none 0 0, .map none, .int .i64 t, .map (some tb)] 72)
      rw [World.size_alloc, hp] at h; exact h, by
      have h := (World.ownsMap_made (H := Unit) w2 Tryz.prog 98 (plainElem Tryz.prog 3)).alloc (.cells #[.slice qA n qc, .slice none 0 0, .map none, .int .i64 t, .map (some tb)] 72)
      rw [htb] at h; exact h⟩
  rw [hp, htb, hwb]
  have HWB := hide (HW2.out.trans (hbb.mono hz2))
  have hzb := HWB.out.size
  have HOB := hide (own_below HO.out hbb)
  have CR := hide (Rates_ok p w.heap.size rn rc rA RT _ _ _ _ _ wb hrn ((HR.out.below HWB.out).more hzb) hrf hb1 (by omega) (fun h0 b o e => by
    obtain ⟨b', o', e', hlt, _⟩ := HR.out.cells h0
    rw [e] at e'; cases e'
    omega))
  rw [H2.out] at CR
  refine CR.out.mono ?_
  rintro e w3 ⟨rfl, _, h3⟩
  obtain ⟨rb, RD, m, hrb, hg3, hR3, hRD, hm, hk3⟩ := h3 rfl
  have HK3 := hide hk3
  have hT3 := ownsMap_block (w' := w3) hb2 (by
    obtain ⟨es, ck, hh, _⟩ := (show _ from hb2)
    rw [hh]; exact hk3.keep tb _ hh (by omega))
  have HT3 := hide hT3
  have HG3 := hide hg3
  have HR3 := hide hR3
  have HRD := hide hRD
  have HO3 := hide (own_stay HOB.out (fun k o e ho => hk3.keep k o ho (fun e2 => by
    have h9 := (HO.out.lt k e).2; omega)))
  have hb3 := hk3.be
  have HB3 := hide (HWB.out.trans hk3.be)
  have hz3 := hk3.be.size
  have hp3 := lt_of_block hg3
  have hrl := hR3.lt
  have htl := hT3.lt
  have hol := HO3.out.lt
  have htb2 : tb < w2.heap.size + 2 := by omega
  clear hk3 hT3 hg3 hR3 hRD hb3 hwb hbb hb1 hb2 CR
  go_wp2_with (first | (go_at_call 19; refine (HM.out _).mono ?_; rintro e w' ⟨rfl, rfl⟩))
  go_loopw [35] (fun i wr => ∃ (k : Nat) (vA : Option Addr) (vc : Nat), i = .int .i64 (k : Int) ∧ k ≤ n ∧ wr.heap[p]? = some (.cells #[.slice qA n qc, .slice vA k vc, .map (some rb), .int .i64 t, .map (some tb)] 72 (0, 0)) ∧ wr.ownsRow w3.heap.size 76 3 (.slice vA k vc) k (((Q.take k).map (fullL t)).flatMap Lv.cs) ∧ Keep w.heap.size (fun k => k = p) w3 wr)
    (fun i _ => n - (intOf i).toNat)
  case atStart => exact ⟨0, none, 0, rfl, Nat.zero_le _, HG3.out, World.ownsRow_nil _ _ _ _, Keep.refl _ _ _⟩
  case round =>
    obtain ⟨k, vA, vc, rfl, hk, hbx, hrow, hK⟩ := hrel
    have hzr := hK.be.size
    have hpl := lt_of_block hbx
    have HK := hide hK
    have HBX := hide hbx
    have HROW := hide hrow
    by_cases hlt : k < n
    · have hki : (k : Int) < (n : Int) := by omega
      have hQw : Sl wr w.heap.size Qt.cs 5 qA0 n Q := (HQ.out.below HB3.out).stay (U := fun k => k ≠ p) (fun k o h u => hK.keep k o h u) (fun h0 b o e => by
        obtain ⟨b', o', e', hl, _⟩ := HQ.out.cells h0
        rw [e] at e'; cases e'
        omega)
      obtain ⟨qb, qo, q, rfl, hqb, hqx, hqc⟩ := hQw.at_ hlt
      have q0 : wr.cell? ⟨qb, qo + k * 5, none⟩ = some (.string q.name) := by simpa using hqc 0 _ rfl
      have q1 : wr.cell? ⟨qb, qo + k * 5 + 1, none⟩ = some (.string q.key) := by simpa using hqc 1 _ rfl
      have q2 : wr.cell? ⟨qb, qo + k * 5 + 2, none⟩ = some (.int .i64 q.s) := by simpa using hqc 2 _ rfl
      have q3 : wr.cell? ⟨qb, qo + k * 5 + 3, none⟩ = some (.int .i64 q.a) := by simpa using hqc 3 _ rfl
      have q4 : wr.cell? ⟨qb, qo + k * 5 + 4, none⟩ = some (.int .i64 q.e) := by simpa using hqc 4 _ rfl
      have HTK := hide (take_succ_get hqx)
      have CF := hide (fun W => full_any q.s q.a q.e t W)
      unfold v3 at CF
      obtain ⟨wq, hwq⟩ : ∃ wq, wr.alloc (.cells #[.string q.name, .string q.key, .int .i64 q.s, .int .i64 q.a, .int .i64 q.e] 67) = wq := ⟨_, rfl⟩
      have hnq : wq.heap[wr.heap.size]? = some (.cells #[.string q.name, .string q.key, .int .i64 q.s, .int .i64 q.a, .int .i64 q.e] 67 (0, 0)) := hwq ▸ heap_alloc_new wr _
      have hbq : Below wr.heap.size wr wq := hwq ▸ (Below.refl _ _).alloc (Nat.le_refl _) _
      have HBQ := hide hbq
      have HSS := hide (show ∀ W', Below wq.heap.size wq W' → (fun W' => W'.cell? ⟨p, 1, none⟩ = some (.slice vA k vc) ∧ W'.cell? ⟨wr.heap.size, 2, none⟩ = some (.int .i64 q.s) ∧ W'.cell? ⟨wr.heap.size, 3, none⟩ = some (.int .i64 q.a) ∧ W'.cell? ⟨wr.heap.size, 4, none⟩ = some (.int .i64 q.e)) W' from fun W' hb => ⟨(block_cell (block_below (block_below hbx hbq) hb) 1).trans rfl, (block_cell (block_below hnq hb) 2).trans rfl, (block_cell (block_below hnq hb) 3).trans rfl, (block_cell (block_below hnq hb) 4).trans rfl⟩)
      clear hqc hqx hQw hnq hbx hrow hK
      go_wp2_with (fail)
      (try rw [hwq])
      refine wp_region_chain (fun W' => W'.cell? ⟨p, 1, none⟩ = some (.slice vA k vc) ∧ W'.cell? ⟨wr.heap.size, 2, none⟩ = some (.int .i64 q.s) ∧ W'.cell? ⟨wr.heap.size, 3, none⟩ = some (.int .i64 q.a) ∧ W'.cell? ⟨wr.heap.size, 4, none⟩ = some (.int .i64 q.e)) 10 (by as_aux_lemma => kernel_rfl) (N := 14) (by as_aux_lemma => kernel_rfl) ?_; intro hsh
      have HS := HSS.out wq.drew (below_drewN (Below.refl _ _) 1)
      refine wpAnyC_take0 (i := 0) (k := 10) (v := ?_) (d := some 39) rfl (by rfl) (by as_aux_lemma => kernel_rfl) (by as_aux_lemma => kernel_rfl) (by as_aux_lemma => kernel_rfl) hsh (by decide) (by intro _ _ _ h; exact h) (by assumption) (Or.inl ⟨by rfl, ?hy⟩) ?_; (case hy => (intro W _; go_simp; (try with_reducible rfl))); clear hsh; intro hsh
      refine wpAnyC_take0 (i := 1) (k := 10) (v := ?_) (d := some 40) rfl (by rfl) (by as_aux_lemma => kernel_rfl) (by as_aux_lemma => kernel_rfl) (by as_aux_lemma => kernel_rfl) hsh (by decide) (by intro _ _ _ h; exact h) (by assumption) (Or.inl ⟨by rfl, ?hy⟩) ?_; (case hy => (intro W _; go_simp; (try with_reducible rfl))); clear hsh; intro hsh
      refine wpAnyC_take0 (i := 2) (k := 10) (v := ?_) (d := some 41) rfl (by rfl) (by as_aux_lemma => kernel_rfl) (by as_aux_lemma => kernel_rfl) (by as_aux_lemma => kernel_rfl) hsh (by decide) (by intro _ _ _ h; exact h) (by assumption) (Or.inl ⟨by rfl, ?hy⟩) ?_; (case hy => (intro W _; go_simp; (try with_reducible rfl))); clear hsh; intro hsh
      refine wpAnyC_take0 (i := 3) (k := 10) (v := ?_) (d := some 42) rfl (by rfl) (by as_aux_lemma => kernel_rfl) (by as_aux_lemma => kernel_rfl) (by as_aux_lemma => kernel_rfl) hsh (by decide) (by intro _ _ _ h; exact h) (by assumption) (Or.inl ⟨by rfl, ?hy⟩) ?_; (case hy => (intro W _; go_simp; (try with_reducible rfl))); clear hsh; intro hsh
      refine wpAnyC_take (i := 4) (k := 10) (f := 40) (v := ?_) (d := some 43) rfl (by rfl) (by as_aux_lemma => kernel_rfl) (by as_aux_lemma => kernel_rfl) (by as_aux_lemma => kernel_rfl) hsh (by decide) (by as_aux_lemma => kernel_rfl) (by intro _ _ _ h; exact h) (by assumption) (Or.inl ⟨by rfl, ?hy⟩) ?_; (case hy => (rintro W ⟨b0, b1, b2, b3⟩; go_simp; (try with_reducible rfl))); clear hsh; intro hsh
      refine wpAnyC_take0 (i := 5) (k := 10) (v := ?_) (d := some 44) rfl (by rfl) (by as_aux_lemma => kernel_rfl) (by as_aux_lemma => kernel_rfl) (by as_aux_lemma => kernel_rfl) hsh (by decide) (by intro _ _ _ h; exact h) (by assumption) (Or.inl ⟨by rfl, ?hy⟩) ?_; (case hy => (intro W _; go_simp; (try with_reducible rfl))); clear hsh; intro hsh
      refine wpAnyC_take (i := 6) (k := 10) (f := 40) (v := ?_) (d := some 45) rfl (by rfl) (by as_aux_lemma => kernel_rfl) (by as_aux_lemma => kernel_rfl) (by as_aux_lemma => kernel_rfl) hsh (by decide) (by as_aux_lemma => kernel_rfl) (by intro _ _ _ h; exact h) (by assumption) (Or.inl ⟨by rfl, ?hy⟩) ?_; (case hy => (rintro W ⟨b0, b1, b2, b3⟩; go_simp; (try with_reducible rfl))); clear hsh; intro hsh
      refine wpAnyC_take0 (i := 7) (k := 10) (v := ?_) (d := some 46) rfl (by rfl) (by as_aux_lemma => kernel_rfl) (by as_aux_lemma => kernel_rfl) (by as_aux_lemma => kernel_rfl) hsh (by decide) (by intro _ _ _ h; exact h) (by assumption) (Or.inl ⟨by rfl, ?hy⟩) ?_; (case hy => (intro W _; go_simp; (try with_reducible rfl))); clear hsh; intro hsh
      refine wpAnyC_ready (rs := [8]) (by as_aux_lemma => kernel_rfl) (by simp) ?_; refine AllC.cons (i := 8) rfl (by as_aux_lemma => kernel_rfl) hsh (fun K hK => ?_) AllC.nil
      go_simp
      go_at_call 20
      refine (CF.out wq.drew).mono ?_
      rintro e w4 ⟨rfl, hb4⟩
      have hb4' : Below wq.heap.size wq w4 := (below_drewN (Below.refl _ _) 1).trans hb4
      try go_simp
      have HS4 := HSS.out w4 hb4'
      have HSA := HSS.out (w4.alloc (.cells #[.int .i64 q.s, .int .i64 t, .int .i64 0] 76)) (hb4'.alloc hb4'.size _)
      refine hK _ _ (fun _ => HS4) ?_
      clear hK K hsh HS hb4
      intro hsh
      refine wpAnyC_ready (rs := [9]) (by as_aux_lemma => kernel_rfl) (by simp) ?_; refine AllC.cons (i := 9) rfl (by as_aux_lemma => kernel_rfl) hsh (fun K hK => ?_) AllC.nil
      go_simp
      refine hK _ _ (fun _ => HSA) ?_
      clear hK K hsh
      intro hsh
      refine wpAnyC_tail (by as_aux_lemma => kernel_rfl) (by simp) (by as_aux_lemma => kernel_rfl) ?_; simp only [List.drop_succ_cons, List.drop_zero]; clear hsh
      have hbr := hbq.trans (hb4'.mono hbq.size)
      have HBR := hide hbr
      have hz4 := hbr.size
      have HR4 := hide (own_below HROW.out hbr)
      have HG4 := hide (block_below HBX.out hbr)
      have hlo4 := HR4.out.lt
      clear hbr hb4' hbq
      go_wp2_with (first | (at_builtin; refine wpList_append_own _ rfl (.tmp 43) (.tmp 48) 69 rfl w3.heap.size 76 i0 (.agg #[.int .i64 0, .int .i64 0, .int .i64 0]) 3 24 Tryz.underlying69 hi0 iz0 iz1 iz2 rfl (by decide) (.slice vA k vc) k (((Q.take k).map (fullL t)).flatMap Lv.cs) (by go_simp) (HR4.out.alloc _) ⟨w4.heap.size, 0, none⟩ 1 1 [.int .i64 q.s, .int .i64 t, .int .i64 0] (by go_simp) rfl (cells_at _ [.int .i64 q.s, .int .i64 t, .int .i64 0] _ _ rfl) (by intro u hu; simp at hu; rcases hu with rfl | rfl | rfl <;> rfl) (by unfold maxLen; omega) (by omega) (by simp; omega) ?_; intro v8 w8 hown8 hg8 _; obtain ⟨A8, c8, rfl⟩ := own_sl hown8; have HO8 := hide hown8; have hg8' := hg8; have HG8 := hide ((hg8.block p (by simp; omega) (fun e => by have := (hlo4 p e.symm).1; omega)).trans (block_below HG4.out ((Below.refl _ _).alloc (Nat.le_refl _) _))); have y1 : w8.cell? ⟨p, 1, none⟩ = some (.slice vA k vc) := (block_cell HG8.out 1).trans rfl; have yf : w8.frozen? ⟨p, 1, none⟩ = false := block_free HG8.out 1; have HX8 := hide hg8; clear hown8 hg8 hg8'))
      go_roundw
      case rel =>
        refine ⟨k + 1, A8, c8, by go_num, by omega, (block_set (i := 1) HG8.out _).trans rfl, ?_, ?_⟩
        · rw [HTK.out, List.map_append, List.flatMap_append]
          exact own_stay HO8.out (fun k' o e ho => block_set_other ho _ _ (by have := (HO8.out.lt k' e).1; show k' ≠ p; omega))
        · have hbe : Below w.heap.size w4 w8 := ((Below.refl w.heap.size w4).alloc (by omega) _).grown HX8.out (by simp; omega) (fun j hj => by have := (hlo4 j hj).1; omega)
          refine ⟨(HK.out.be.trans ((HBR.out.mono (by omega)).trans hbe)).setCell (p := ⟨p, 1, none⟩) (by show _ ≤ p; omega) _, fun k' o e ne => ?_⟩
          have hl := lt_of_block e
          have e2 := block_below (block_below (HK.out.keep k' o e ne) HBR.out) ((Below.refl _ _).alloc (Nat.le_refl _) (.cells #[.int .i64 q.s, .int .i64 t, .int .i64 0] 76))
          exact block_set_other ((HX8.out.block k' (lt_of_block e2) (fun e3 => by have := (hlo4 k' e3.symm).1; omega)).trans e2) _ _ ne
      case measure => simp [intOf]; omega
    · have hki : ¬ (k : Int) < (n : Int) := by omega
      obtain rfl : n = k := by omega
      have HTK := hide (take_len Q (Nat.le_of_eq hql))
      go_wp2_with (fail)
      refine bodyPost_ret (by simp [results, Tryz.results5, go_sem]; try rfl) rfl ?_
      refine ⟨p, rfl, qc, vc, rb, tb, m, qA, vA, RD, hbx, ?_, ?_, ?_, HRD.out, ?_, by omega, by omega, by omega, by omega, HB3.out.trans hK.be⟩
      · exact World.ownsRow.mono (own_stay HO3.out (fun k o e ho => hK.keep k o ho (fun e2 => by have h9 := (HO.out.lt k e).2; omega))) HW1.out.size
      · have hTK := HTK.out
        rw [hTK] at hrow
        exact World.ownsRow.mono hrow (by omega)
      · refine ownsMap_block HR3.out ?_
        obtain ⟨es, ck, hh, _⟩ := (show _ from HR3.out)
        rw [hh]; exact hK.keep rb _ hh (by omega)
      · refine ownsMap_block HT3.out ?_
        obtain ⟨es, ck, hh, _⟩ := (show _ from HT3.out)
        rw [hh]; exact hK.keep tb _ hh (by omega)
end Go.Proofs.YtkkhjlomicokgaaGreatDoor

/- NewGate of the program, where it refuses. -/
namespace Go.Proofs.YtkkhjlomicokgaaGreatDoor
open Go.RowKit Go.Maps
set_option linter.unusedVariables false
set_option linter.unusedSimpArgs false
set_option maxRecDepth 100000 in
set_option maxHeartbeats 8000000 in
theorem NewGate_bad (n qc0 rn rc : Nat) (qA0 rA : Option Addr) (Q : List Qt) (RT : List RtK) (t : Int) (w : World) (hn : n ≤ maxLen) (hq : Sl w w.heap.size Qt.cs 5 qA0 n Q) (hqf : QtFit Q) (hrn : rn ≤ maxLen) (hr : Sl w w.heap.size RtK.cs 2 rA rn RT) (hrf : RkFit RT) (hE : newE Q RT t ≠ 0) :
    Calls Tryz.prog 5 #[.slice qA0 n qc0, .slice rA rn rc, .int .i64 t] w fun e w' => e = .returned (.tuple #[.pointer none, .int .i64 (newE Q RT t)]) ∧ Below w.heap.size w w' := by
  have hql := hq.len
  have hn50 : qtErr Q = 0 → n ≤ 50 := fun h1 => by
    by_cases h : 50 < Q.length
    · rw [qtErr, if_pos h] at h1; cases h1
    · omega
  have HC := hide (CheckQuotas_any qA0 n qc0 Q w hn hq hqf)
  have HL := hide (fun (W : World) (h : Below w.heap.size w W) (h2 : n ≤ 1000) => CloneQt_any qA0 n qc0 Q W h2 (Sl.up hq h))
  have HM := hide (fun W => isMoment_any t W)
  have HR := hide hr
  have HE := hide hE
  have hmm := @run_makeMap Tryz.prog
  by_cases h1 : qtErr Q = 0
  · have hn1 : n ≤ 1000 := by have := hn50 h1; omega
    rw [h1] at HC
    by_cases h2 : rtErr RT = 0
    · have h3 : outsideB t 0 3155759999 = true := by
        unfold newE at hE
        rw [if_pos h1, if_pos h2] at hE
        split at hE
        · assumption
        · exact absurd rfl hE
      have E := hide (show newE Q RT t = 2 by rw [newE, if_pos h1, if_pos h2, if_pos h3])
      rw [h3] at HM
      have H2 := hide h2
      clear hq hr h1 h2 h3 hE hn50
      go_enter Tryz.func5, Tryz.ntmps5
      go_wp2_with (first | (go_at_call 16; refine HC.out.mono ?_; rintro e w1 ⟨rfl, hw1⟩; have HW1 := hide hw1; clear hw1) | (go_at_call 17; refine (HL.out _ HW1.out hn1).mono ?_; rintro e w2 ⟨v, rfl, hown, hw2⟩; obtain ⟨qA, qc, rfl⟩ := own_sl hown; have HW2 := hide (HW1.out.trans (hw2.mono HW1.out.size)); clear hown hw2))
      clear hmm
      have hz2 := HW2.out.size
      obtain ⟨p, hp⟩ : ∃ p, w2.heap.size + 1 = p := ⟨_, rfl⟩
      obtain ⟨tb, htb⟩ : ∃ tb, w2.heap.size = tb := ⟨_, rfl⟩
      obtain ⟨wb, hwb, hbb, hsb, hb1⟩ : ∃ wb, (w2.alloc (.map #[] 0)).alloc (.cells #[.slice qA n qc, .slice none 0 0, .map none, .int .i64 t, .map (some tb)] 72) = wb ∧ Below w2.heap.size w2 wb ∧ wb.heap.size = w2.heap.size + 2 ∧ wb.heap[p]? = some (.cells #[.slice qA n qc, .slice none 0 0, .map none, .int .i64 t, .map (some tb)] 72 (0, 0)) :=
        ⟨_, rfl, ((Below.refl _ _).alloc (Nat.le_refl _) _).alloc (by simp) _, by simp, by
          have h := heap_alloc_new (w2.alloc (.map #[] 0)) (.cells #[.slice qA n qc, .slice none 0 0, .map none, .int .i64 t, .map (some tb)] 72)
          rw [World.size_alloc, hp] at h; exact h⟩
      rw [hp, htb, hwb]
      have HWB := hide (HW2.out.trans (hbb.mono hz2))
      have hzb := HWB.out.size
      have CR := hide (Rates_ok p w.heap.size rn rc rA RT _ _ _ _ _ wb hrn ((HR.out.below HWB.out).more hzb) hrf hb1 (by omega) (fun h0 b o e => by
        obtain ⟨b', o', e', hlt, _⟩ := HR.out.cells h0
        rw [e] at e'; cases e'
        omega))
      refine CR.out.mono ?_
      rintro e w3 ⟨rfl, _, h3⟩
      obtain ⟨rb, RD, m, _, _, _, _, _, hk3⟩ := h3 H2.out
      rw [H2.out]
      have HB3 := hide (HWB.out.trans hk3.be)
      clear hk3 CR
      go_wp2_with (first | (go_at_call 19; refine (HM.out _).mono ?_; rintro e w' ⟨rfl, rfl⟩))
      refine bodyPost_ret (by simp [results, Tryz.results5, go_sem]; try rfl) rfl ?_
      exact ⟨by rw [E.out], HB3.out⟩
    · have hne : (rtErr RT == 0) = false := by simpa using h2
      have E := hide (show newE Q RT t = rtErr RT by rw [newE, if_pos h1, if_neg h2])
      have H2 := hide h2
      clear hq hr h1 h2 hE hn50
      go_enter Tryz.func5, Tryz.ntmps5
      go_wp2_with (first | (go_at_call 16; refine HC.out.mono ?_; rintro e w1 ⟨rfl, hw1⟩; have HW1 := hide hw1; clear hw1) | (go_at_call 17; refine (HL.out _ HW1.out hn1).mono ?_; rintro e w2 ⟨v, rfl, hown, hw2⟩; obtain ⟨qA, qc, rfl⟩ := own_sl hown; have HW2 := hide (HW1.out.trans (hw2.mono HW1.out.size)); clear hown hw2))
      clear hmm
      have hz2 := HW2.out.size
      obtain ⟨p, hp⟩ : ∃ p, w2.heap.size + 1 = p := ⟨_, rfl⟩
      obtain ⟨tb, htb⟩ : ∃ tb, w2.heap.size = tb := ⟨_, rfl⟩
      obtain ⟨wb, hwb, hbb, hsb, hb1⟩ : ∃ wb, (w2.alloc (.map #[] 0)).alloc (.cells #[.slice qA n qc, .slice none 0 0, .map none, .int .i64 t, .map (some tb)] 72) = wb ∧ Below w2.heap.size w2 wb ∧ wb.heap.size = w2.heap.size + 2 ∧ wb.heap[p]? = some (.cells #[.slice qA n qc, .slice none 0 0, .map none, .int .i64 t, .map (some tb)] 72 (0, 0)) :=
        ⟨_, rfl, ((Below.refl _ _).alloc (Nat.le_refl _) _).alloc (by simp) _, by simp, by
          have h := heap_alloc_new (w2.alloc (.map #[] 0)) (.cells #[.slice qA n qc, .slice none 0 0, .map none, .int .i64 t, .map (some tb)] 72)
          rw [World.size_alloc, hp] at h; exact h⟩
      rw [hp, htb, hwb]
      have HWB := hide (HW2.out.trans (hbb.mono hz2))
      have hzb := HWB.out.size
      have CR := hide (Rates_ok p w.heap.size rn rc rA RT _ _ _ _ _ wb hrn ((HR.out.below HWB.out).more hzb) hrf hb1 (by omega) (fun h0 b o e => by
        obtain ⟨b', o', e', hlt, _⟩ := HR.out.cells h0
        rw [e] at e'; cases e'
        omega))
      refine CR.out.mono ?_
      rintro e w3 ⟨rfl, h3, _⟩
      have HB3 := hide (HWB.out.trans ((h3 H2.out).mono hzb))
      clear h3 CR
      go_wp2_with (fail)
      refine bodyPost_ret (by simp [results, Tryz.results5, go_sem]; try rfl) rfl ?_
      exact ⟨by rw [E.out], HB3.out⟩
  · have hne : (qtErr Q == 0) = false := by simpa using h1
    have E := hide (show newE Q RT t = qtErr Q by rw [newE, if_neg h1])
    clear hq hr h1 hE hn50
    go_enter Tryz.func5, Tryz.ntmps5
    go_wp2_with (first | (go_at_call 16; refine HC.out.mono ?_; rintro e w1 ⟨rfl, hw1⟩; have HW1 := hide hw1; clear hw1))
    refine bodyPost_ret (by simp [results, Tryz.results5, go_sem]; try rfl) rfl ?_
    exact ⟨by rw [E.out], HW1.out⟩
end Go.Proofs.YtkkhjlomicokgaaGreatDoor

/- The program's gate in memory, and Ask over it. -/
namespace Go.Proofs.YtkkhjlomicokgaaGreatDoor
open Go.RowKit Go.Maps
set_option linter.unusedVariables false
set_option linter.unusedSimpArgs false
structure GP (B : Nat) (W : World) (p n qc lc rb tb m tn : Nat) (qA lA : Option Addr) (RD : DataW Unit) (Q : List Qt) (RT : List RtK) (g : Int) (V : List Lv) (TL : List Tl) : Prop where
  box : W.heap[p]? = some (.cells #[.slice qA n qc, .slice lA n lc, .map (some rb), .int .i64 g, .map (some tb)] 72 (0, 0))
  quo : W.ownsRow B 67 5 (.slice qA n qc) n (Q.flatMap Qt.cs)
  lev : W.ownsRow B 76 3 (.slice lA n lc) n (V.flatMap Lv.cs)
  rat : W.ownsMap Tryz.prog 9 (plainElem Tryz.prog 3) rb m RD
  rds : MapR RD RT
  tal : ∃ D, W.ownsMap Tryz.prog 98 (plainElem Tryz.prog 3) tb tn D ∧ MapT D TL
  pl : B ≤ p
  rl : B ≤ rb
  tl : B ≤ tb
  ne : rb ≠ tb
section
variable {B : Nat} {W W' : World} {p n qc lc rb tb m tn : Nat} {qA lA : Option Addr} {RD : DataW Unit} {Q : List Qt} {RT : List RtK} {g t : Int} {V V' : List Lv} {TL TL' : List Tl}
theorem map_blk {w : World} {k b n : Nat} {e : TypeId} {D : DataW Unit} (h : w.ownsMap Tryz.prog k (plainElem Tryz.prog e) b n D) : ∃ es ck, w.heap[b]? = some (.map es ck) := by
  obtain ⟨es, ck, hh, _⟩ := (show _ from h)
  exact ⟨es, ck, hh⟩
theorem row_blk {w : World} {base sz n k : Nat} {e : TypeId} {v : Value} {xs : List Value} (h : w.ownsRow base e sz v n xs) (hk : v.ownBlock = some k) : ∃ cur, w.heap[k]? = some (.cells cur e (0, 0)) := by
  rcases h.2 with h1 | ⟨g, cap, cur, q1, q2, q3, q4⟩
  · rw [h1.1] at hk; cases hk
  · rw [q1] at hk
    obtain rfl : g = k := Option.some.inj hk
    exact ⟨cur, q3⟩
theorem GP.made {w : World} (h : Made w W Q RT t p n qc lc rb tb m qA lA RD) : GP w.heap.size W p n qc lc rb tb m 0 qA lA RD Q RT t (Q.map (fullL t)) [] :=
  ⟨h.box, h.quo, h.lev, h.rat, h.rds, ⟨_, h.tal, MapT.empty⟩, h.pl, h.rl, h.tl, h.ne⟩
theorem GP.below (h : GP B W p n qc lc rb tb m tn qA lA RD Q RT g V TL) (hb : Below W.heap.size W W') : GP B W' p n qc lc rb tb m tn qA lA RD Q RT g V TL := by
  obtain ⟨D, h1, h2⟩ := h.tal
  exact ⟨block_below h.box hb, own_below h.quo hb, own_below h.lev hb, h.rat.kept (grown_of_below hb) (by simp), h.rds, ⟨D, h1.kept (grown_of_below hb) (by simp), h2⟩, h.pl, h.rl, h.tl, h.ne⟩
theorem GP.qsep (h : GP B W p n qc lc rb tb m tn qA lA RD Q RT g V TL) {k : Nat} (hk : (Value.slice qA n qc).ownBlock = some k) : k ≠ p ∧ k ≠ tb ∧ k ≠ rb ∧ (Value.slice lA n lc).ownBlock ≠ some k := by
  obtain ⟨cur, hc⟩ := row_blk h.quo hk
  obtain ⟨D, h1, _⟩ := h.tal
  obtain ⟨es, ck, ht⟩ := map_blk h1
  obtain ⟨es2, ck2, hr⟩ := map_blk h.rat
  refine ⟨fun e => ?_, fun e => ?_, fun e => ?_, fun e => ?_⟩
  · rw [e, h.box] at hc; cases hc
  · rw [e, ht] at hc; cases hc
  · rw [e, hr] at hc; cases hc
  · obtain ⟨cur2, hc2⟩ := row_blk h.lev e
    rw [hc2] at hc; cases hc
theorem GP.lsep (h : GP B W p n qc lc rb tb m tn qA lA RD Q RT g V TL) {k : Nat} (hk : (Value.slice lA n lc).ownBlock = some k) : k ≠ p ∧ k ≠ tb ∧ k ≠ rb ∧ (Value.slice qA n qc).ownBlock ≠ some k := by
  obtain ⟨cur, hc⟩ := row_blk h.lev hk
  obtain ⟨D, h1, _⟩ := h.tal
  obtain ⟨es, ck, ht⟩ := map_blk h1
  obtain ⟨es2, ck2, hr⟩ := map_blk h.rat
  refine ⟨fun e => ?_, fun e => ?_, fun e => ?_, fun e => ?_⟩
  · rw [e, h.box] at hc; cases hc
  · rw [e, ht] at hc; cases hc
  · rw [e, hr] at hc; cases hc
  · exact (h.qsep e).2.2.2 hk
theorem GP.msep (h : GP B W p n qc lc rb tb m tn qA lA RD Q RT g V TL) : rb ≠ p ∧ tb ≠ p := by
  obtain ⟨D, h1, _⟩ := h.tal
  obtain ⟨es, ck, ht⟩ := map_blk h1
  obtain ⟨es2, ck2, hr⟩ := map_blk h.rat
  refine ⟨fun e => ?_, fun e => ?_⟩
  · rw [e, h.box] at hr; cases hr
  · rw [e, h.box] at ht; cases ht
theorem GP.asked (h : GP B W p n qc lc rb tb m tn qA lA RD Q RT g V TL) (a : Asked W W' B p n qc lc rb tb tn qA lA t V' TL') : GP B W' p n qc lc rb tb m (tn + 1) qA lA RD Q RT t V' TL' := by
  have hr : W'.heap[rb]? = W.heap[rb]? := by
    obtain ⟨es, ck, hh⟩ := map_blk h.rat
    rw [hh]
    exact a.keep.keep rb _ hh (fun e => by
      rcases e with e | e | e
      · exact h.msep.1 e
      · exact h.ne e
      · exact (h.lsep e).2.2.1 rfl)
  exact ⟨a.box, own_stay h.quo (fun k o e ho => a.keep.keep k o ho (fun e2 => by
      rcases e2 with e2 | e2 | e2
      · exact (h.qsep e).1 e2
      · exact (h.qsep e).2.1 e2
      · exact (h.qsep e).2.2.2 e2)), a.lev, ownsMap_block h.rat hr, h.rds, a.tal, h.pl, h.rl, h.tl, h.ne⟩
end
/-- What Ask answers (where it answers): why, name, weight; levels; tallies. -/
def askO (Q : List Qt) (RT : List RtK) (V : List Lv) (TL : List Tl) (id key : ByteArray) (t : Int) : (Int × ByteArray × Int) × List Lv × List Tl :=
  if hasR key RT = true ∧ sampledB id (getR key RT) = false then ((1, ⟨#[]⟩, 0), V, incT (key, 1, ⟨#[]⟩) TL)
  else match limF Q V key t with
    | some i => ((2, Q[i].name, 0), V, incT (key, 2, Q[i].name) TL)
    | none => ((0, ⟨#[]⟩, if hasR key RT = true then 1000000000000 / getR key RT else 1000000), limV Q V t (fitIx Q key Q.length), incT (key, 0, ⟨#[]⟩) TL)
def askV (o : Int × ByteArray × Int) : Value := .tuple #[.int .i64 o.1, .string o.2.1, .int .i64 o.2.2, .int .i64 0]
theorem Ask_gp {B : Nat} {w : World} {p n qc lc rb tb m tn : Nat} {qA lA : Option Addr} {RD : DataW Unit} {Q : List Qt} {RT : List RtK} {g : Int} {V : List Lv} {TL : List Tl} (h : GP B w p n qc lc rb tb m tn qA lA RD Q RT g V TL) (t : Int) (id key : ByteArray)
    (hQ : Q.length = n) (hV : V.length = n) (hok : LvsOk Q V) (hn5 : n ≤ 50) (hBz : B ≤ w.heap.size) (hg : ∀ x ∈ V, x.t ≤ g) (hnm : ∀ q ∈ Q, q.name.size ≤ maxLen)
    (hRT : 0 ≤ getR key RT ∧ getR key RT ≤ 1000000) (htn : tn < 1000000) (hTc : ∀ x, 0 ≤ getT x TL ∧ getT x TL ≤ 1000000) (hid : id.size ≤ 200) (hke : keyErr key = 0) (hkl : key.size ≤ maxLen) (hE : momE t g = 0) :
    Calls Tryz.prog 8 #[.pointer (some ⟨p, 0, none⟩), .string id, .string key, .int .i64 t] w fun e w' => e = .returned (askV (askO Q RT V TL id key t).1) ∧
      GP B w' p n qc lc rb tb m (tn + 1) qA lA RD Q RT t (askO Q RT V TL id key t).2.1 (askO Q RT V TL id key t).2.2 ∧ Below B w w' := by
  obtain ⟨TD, hT, hTD⟩ := h.tal
  have hsl : Sl w w.heap.size Qt.cs 5 qA n Q := by
    obtain ⟨A, c, e, hs, _⟩ := sl_of_own (f := Qt.cs) (fun _ => rfl) hQ h.quo
    cases e
    exact hs
  have hbl : ∀ b o, qA = some ⟨b, o, none⟩ → (Value.slice qA n qc).ownBlock = some b := fun b o e => by rw [e]; rfl
  have hqp : 0 < n → ∀ b o, qA = some ⟨b, o, none⟩ → b ≠ p ∧ b ≠ tb := fun _ b o e => ⟨(h.qsep (hbl b o e)).1, (h.qsep (hbl b o e)).2.1⟩
  have hpl : ∀ k, (Value.slice lA n lc).ownBlock = some k → k ≠ p ∧ (0 < n → ∀ b o, qA = some ⟨b, o, none⟩ → b ≠ k) := fun k e => ⟨(h.lsep e).1, fun _ b o e2 e3 => (h.qsep (hbl b o e2)).2.2.2 (by rw [e3]; exact e)⟩
  by_cases c1 : hasR key RT = true ∧ sampledB id (getR key RT) = false
  · have e : askO Q RT V TL id key t = ((1, ⟨#[]⟩, 0), V, incT (key, 1, ⟨#[]⟩) TL) := by rw [askO, if_pos c1]
    rw [e]
    refine (Ask_smp p n qc lc B rb m tb tn qA lA g t id key Q V RT TL RD TD w hQ hV h.box hsl hqp h.lev hpl hok hn5 hBz h.pl h.tl hg hnm h.rat h.rds hRT hT hTD htn hTc hid hke hkl hE c1.1 c1.2).mono ?_
    rintro e w' ⟨rfl, ha⟩
    exact ⟨rfl, h.asked ha, ha.keep.be⟩
  · have hpass : hasR key RT = true → sampledB id (getR key RT) = true := fun h1 => by
      cases h2 : sampledB id (getR key RT) with
      | true => rfl
      | false => exact absurd ⟨h1, h2⟩ c1
    cases hl : limF Q V key t with
    | some i =>
      have e : askO Q RT V TL id key t = ((2, Q[i].name, 0), V, incT (key, 2, Q[i].name) TL) := by rw [askO, if_neg c1, hl]
      rw [e]
      refine (Ask_lim p n qc lc B rb m tb tn qA lA g t id key Q V RT TL RD TD w hQ hV h.box hsl hqp h.lev hpl hok hn5 hBz h.pl h.tl hg hnm h.rat h.rds hRT hT hTD htn hTc hid hke hkl hE hpass i.val i.isLt hl).mono ?_
      rintro e w' ⟨rfl, ha⟩
      exact ⟨rfl, h.asked ha, ha.keep.be⟩
    | none =>
      have e : askO Q RT V TL id key t = ((0, ⟨#[]⟩, if hasR key RT = true then 1000000000000 / getR key RT else 1000000), limV Q V t (fitIx Q key Q.length), incT (key, 0, ⟨#[]⟩) TL) := by rw [askO, if_neg c1, hl]
      rw [e]
      refine (Ask_kept p n qc lc B rb m tb tn qA lA g t id key Q V RT TL RD TD w hQ hV h.box hsl hqp h.lev hpl hok hn5 hBz h.pl h.tl hg hnm h.rat h.rds hRT hT hTD htn hTc hid hke hkl hE hpass hl).mono ?_
      rintro e w' ⟨rfl, ha⟩
      exact ⟨rfl, h.asked ha, ha.keep.be⟩
end Go.Proofs.YtkkhjlomicokgaaGreatDoor

/- Ask of the program's gate, told which blocks it keeps; tallies and rates. -/
namespace Go.Proofs.YtkkhjlomicokgaaGreatDoor
open Go.RowKit Go.Maps
set_option linter.unusedVariables false
set_option linter.unusedSimpArgs false
theorem Ask_gpK {B : Nat} {w : World} {p n qc lc rb tb m tn : Nat} {qA lA : Option Addr} {RD : DataW Unit} {Q : List Qt} {RT : List RtK} {g : Int} {V : List Lv} {TL : List Tl} (h : GP B w p n qc lc rb tb m tn qA lA RD Q RT g V TL) (t : Int) (id key : ByteArray)
    (hQ : Q.length = n) (hV : V.length = n) (hok : LvsOk Q V) (hn5 : n ≤ 50) (hBz : B ≤ w.heap.size) (hg : ∀ x ∈ V, x.t ≤ g) (hnm : ∀ q ∈ Q, q.name.size ≤ maxLen)
    (hRT : 0 ≤ getR key RT ∧ getR key RT ≤ 1000000) (htn : tn < 1000000) (hTc : ∀ x, 0 ≤ getT x TL ∧ getT x TL ≤ 1000000) (hid : id.size ≤ 200) (hke : keyErr key = 0) (hkl : key.size ≤ maxLen) (hE : momE t g = 0) :
    Calls Tryz.prog 8 #[.pointer (some ⟨p, 0, none⟩), .string id, .string key, .int .i64 t] w fun e w' => e = .returned (askV (askO Q RT V TL id key t).1) ∧
      GP B w' p n qc lc rb tb m (tn + 1) qA lA RD Q RT t (askO Q RT V TL id key t).2.1 (askO Q RT V TL id key t).2.2 ∧ Keep B (fun k => k = p ∨ k = tb ∨ (Value.slice lA n lc).ownBlock = some k) w w' := by
  obtain ⟨TD, hT, hTD⟩ := h.tal
  have hsl : Sl w w.heap.size Qt.cs 5 qA n Q := by
    obtain ⟨A, c, e, hs, _⟩ := sl_of_own (f := Qt.cs) (fun _ => rfl) hQ h.quo
    cases e
    exact hs
  have hbl : ∀ b o, qA = some ⟨b, o, none⟩ → (Value.slice qA n qc).ownBlock = some b := fun b o e => by rw [e]; rfl
  have hqp : 0 < n → ∀ b o, qA = some ⟨b, o, none⟩ → b ≠ p ∧ b ≠ tb := fun _ b o e => ⟨(h.qsep (hbl b o e)).1, (h.qsep (hbl b o e)).2.1⟩
  have hpl : ∀ k, (Value.slice lA n lc).ownBlock = some k → k ≠ p ∧ (0 < n → ∀ b o, qA = some ⟨b, o, none⟩ → b ≠ k) := fun k e => ⟨(h.lsep e).1, fun _ b o e2 e3 => (h.qsep (hbl b o e2)).2.2.2 (by rw [e3]; exact e)⟩
  by_cases c1 : hasR key RT = true ∧ sampledB id (getR key RT) = false
  · have e : askO Q RT V TL id key t = ((1, ⟨#[]⟩, 0), V, incT (key, 1, ⟨#[]⟩) TL) := by rw [askO, if_pos c1]
    rw [e]
    refine (Ask_smp p n qc lc B rb m tb tn qA lA g t id key Q V RT TL RD TD w hQ hV h.box hsl hqp h.lev hpl hok hn5 hBz h.pl h.tl hg hnm h.rat h.rds hRT hT hTD htn hTc hid hke hkl hE c1.1 c1.2).mono ?_
    rintro e w' ⟨rfl, ha⟩
    exact ⟨rfl, h.asked ha, ha.keep⟩
  · have hpass : hasR key RT = true → sampledB id (getR key RT) = true := fun h1 => by
      cases h2 : sampledB id (getR key RT) with
      | true => rfl
      | false => exact absurd ⟨h1, h2⟩ c1
    cases hl : limF Q V key t with
    | some i =>
      have e : askO Q RT V TL id key t = ((2, Q[i].name, 0), V, incT (key, 2, Q[i].name) TL) := by rw [askO, if_neg c1, hl]
      rw [e]
      refine (Ask_lim p n qc lc B rb m tb tn qA lA g t id key Q V RT TL RD TD w hQ hV h.box hsl hqp h.lev hpl hok hn5 hBz h.pl h.tl hg hnm h.rat h.rds hRT hT hTD htn hTc hid hke hkl hE hpass i.val i.isLt hl).mono ?_
      rintro e w' ⟨rfl, ha⟩
      exact ⟨rfl, h.asked ha, ha.keep⟩
    | none =>
      have e : askO Q RT V TL id key t = ((0, ⟨#[]⟩, if hasR key RT = true then 1000000000000 / getR key RT else 1000000), limV Q V t (fitIx Q key Q.length), incT (key, 0, ⟨#[]⟩) TL) := by rw [askO, if_neg c1, hl]
      rw [e]
      refine (Ask_kept p n qc lc B rb m tb tn qA lA g t id key Q V RT TL RD TD w hQ hV h.box hsl hqp h.lev hpl hok hn5 hBz h.pl h.tl hg hnm h.rat h.rds hRT hT hTD htn hTc hid hke hkl hE hpass hl).mono ?_
      rintro e w' ⟨rfl, ha⟩
      exact ⟨rfl, h.asked ha, ha.keep⟩
section
variable {B : Nat} {W W' : World} {p n qc lc rb tb m tn tc : Nat} {qA lA tA : Option Addr} {rv : Value} {RD : DataW Unit} {Q : List Qt} {RT : List RtK} {g t : Int} {V : List Lv} {TL : List Tl}
/-- The program's blocks. -/
def PB (p n qc lc rb tb : Nat) (qA lA : Option Addr) (k : Nat) : Prop := k = p ∨ k = rb ∨ k = tb ∨ (Value.slice qA n qc).ownBlock = some k ∨ (Value.slice lA n lc).ownBlock = some k
/-- The reference's blocks. -/
def RB (p n lc tl tc : Nat) (lA tA : Option Addr) (k : Nat) : Prop := k = p ∨ (Value.slice lA n lc).ownBlock = some k ∨ (Value.slice tA tl tc).ownBlock = some k
theorem GP.keep (h : GP B W p n qc lc rb tb m tn qA lA RD Q RT g V TL) (hk : ∀ k o, PB p n qc lc rb tb qA lA k → W.heap[k]? = some o → W'.heap[k]? = some o) : GP B W' p n qc lc rb tb m tn qA lA RD Q RT g V TL := by
  obtain ⟨D, h1, h2⟩ := h.tal
  obtain ⟨es, ck, ht⟩ := map_blk h1
  obtain ⟨es2, ck2, hr⟩ := map_blk h.rat
  exact ⟨hk p _ (.inl rfl) h.box, own_stay h.quo (fun k o e ho => hk k o (.inr (.inr (.inr (.inl e)))) ho), own_stay h.lev (fun k o e ho => hk k o (.inr (.inr (.inr (.inr e)))) ho),
    ownsMap_block h.rat ((hk rb _ (.inr (.inl rfl)) hr).trans hr.symm), h.rds, ⟨D, ownsMap_block h1 ((hk tb _ (.inr (.inr (.inl rfl))) ht).trans ht.symm), h2⟩, h.pl, h.rl, h.tl, h.ne⟩
theorem GP.lt (h : GP B W p n qc lc rb tb m tn qA lA RD Q RT g V TL) {k : Nat} (hk : PB p n qc lc rb tb qA lA k) : k < W.heap.size := by
  obtain ⟨D, h1, h2⟩ := h.tal
  rcases hk with rfl | rfl | rfl | e | e
  · exact lt_of_block h.box
  · exact h.rat.lt
  · exact h1.lt
  · exact (h.quo.lt k e).2
  · exact (h.lev.lt k e).2
end
/-- Tallies of i questions. -/
structure TI (TL : List Tl) (i : Nat) : Prop where
  nd : (TL.map Tl.tag).Nodup
  ok : ∀ x ∈ TL, TagOk x.tag
  len : TL.length ≤ i
  many : ∀ x ∈ TL, 0 ≤ x.many ∧ x.many ≤ i
theorem TI.empty : TI [] 0 := ⟨by simp, by simp, Nat.le_refl _, by simp⟩
theorem TI.more {TL : List Tl} {i k : Nat} (h : TI TL i) (hk : i ≤ k) : TI TL k := ⟨h.nd, h.ok, Nat.le_trans h.len hk, fun x hx => by have := h.many x hx; omega⟩
theorem incT_mem {t : Tag} {x : Tl} : ∀ {l : List Tl}, x ∈ incT t l → x ∈ l ∨ (x.tag = t ∧ (x.many = 1 ∨ ∃ y ∈ l, x.many = y.many + 1))
  | [], h => by
    rw [show incT t [] = [mkT t 1] from rfl, List.mem_singleton] at h
    subst h
    exact .inr ⟨rfl, .inl rfl⟩
  | y :: l, h => by
    unfold incT at h
    split at h
    · rcases List.mem_cons.1 h with rfl | h
      · exact .inr ⟨rfl, .inr ⟨y, List.mem_cons_self, rfl⟩⟩
      · exact .inl (List.mem_cons_of_mem _ h)
    · rcases List.mem_cons.1 h with rfl | h
      · exact .inl List.mem_cons_self
      · rcases incT_mem h with h1 | ⟨h1, h2 | ⟨z, hz, h2⟩⟩
        · exact .inl (List.mem_cons_of_mem _ h1)
        · exact .inr ⟨h1, .inl h2⟩
        · exact .inr ⟨h1, .inr ⟨z, List.mem_cons_of_mem _ hz, h2⟩⟩
theorem incT_len (t : Tag) : ∀ l : List Tl, (incT t l).length ≤ l.length + 1
  | [] => by simp [incT]
  | y :: l => by
    unfold incT
    split
    · simp
    · have := incT_len t l
      simp only [List.length_cons]; omega
theorem TI.inc {TL : List Tl} {i : Nat} (h : TI TL i) {t : Tag} (ht : TagOk t) : TI (incT t TL) (i + 1) := by
  refine ⟨incT_nodup h.nd, fun x hx => ?_, by have := incT_len t TL; have := h.len; omega, fun x hx => ?_⟩
  · rcases incT_mem hx with h1 | ⟨h1, _⟩
    · exact h.ok x h1
    · rw [h1]; exact ht
  · rcases incT_mem hx with h1 | ⟨h1, h2 | ⟨y, hy, h2⟩⟩
    · have := h.many x h1; omega
    · omega
    · have := h.many y hy; omega
theorem TI.get {TL : List Tl} {i : Nat} (h : TI TL i) (hi : i ≤ 1000) (t : Tag) : 0 ≤ getT t TL ∧ getT t TL ≤ 1000000 := by
  by_cases hm : t ∈ TL.map Tl.tag
  · obtain ⟨x, hx, rfl⟩ := List.mem_map.1 hm
    rw [getT_mem hx h.nd]
    have := h.many x hx
    omega
  · rw [getT_none hm]; omega
theorem TI.ask {TL : List Tl} {i : Nat} (h : TI TL i) {Q : List Qt} (hn : ∀ q ∈ Q, q.name.size ≤ maxLen) {key : ByteArray} (hk : key.size ≤ maxLen) (RT : List RtK) (V : List Lv) (id : ByteArray) (t : Int) : TI (askO Q RT V TL id key t).2.2 (i + 1) := by
  unfold askO
  split
  · exact h.inc (tag_ok hk (by decide) (by decide) (by decide))
  · split
    · rename_i j _
      exact h.inc (tag_ok hk (hn _ (List.getElem_mem _)) (by decide) (by decide))
    · exact h.inc (tag_ok hk (by decide) (by decide) (by decide))
theorem rt_one {l : List RtK} (h : rtErr l = 0) {i j : Nat} {x y : RtK} (hx : l[i]? = some x) (hy : l[j]? = some y) (e : x.key = y.key) : i = j := by
  have key : ∀ {i j : Nat} {x y : RtK}, l[i]? = some x → l[j]? = some y → x.key = y.key → ¬ i < j := fun {i j x y} hx hy e hij => by
    have h1 : rtErrAt l j = 0 := by
      unfold rtErr at h
      split at h
      · cases h
      · exact firstErr_all h j (List.getElem?_eq_some_iff.1 hy).1
    unfold rtErrAt at h1
    rw [hy] at h1
    dsimp only at h1
    split at h1
    · split at h1
      · cases h1
      · rename_i h2
        apply h2
        rw [List.contains_iff_mem]
        unfold rkOf
        exact List.mem_map.2 ⟨x, List.mem_of_getElem? (i := i) (by rw [List.getElem?_take, if_pos hij]; exact hx), by rw [e]⟩
    · rename_i h2; exact h2 h1
  rcases Nat.lt_trichotomy i j with h1 | h1 | h1
  · exact absurd h1 (key hx hy e)
  · exact h1
  · exact absurd h1 (key hy hx e.symm)
theorem getR_snoc (k : ByteArray) (l : List RtK) (x : RtK) : getR k (l ++ [x]) = if x.key = k then x.keep else getR k l := by
  unfold getR; rw [List.foldl_append]; rfl
theorem getR_of {k : ByteArray} {v : Int} : ∀ (m : Nat) (l : List RtK), l.length = m → (∀ (j : Nat) y, l[j]? = some y → y.key = k → y.keep = v) → (∃ y ∈ l, y.key = k) → getR k l = v
  | 0, l, hl, _, ⟨y, hy, _⟩ => by rw [List.length_eq_zero_iff.1 hl] at hy; cases hy
  | m + 1, l, hl, h, ⟨y, hy, hyk⟩ => by
    have hne : l ≠ [] := by intro e; rw [e] at hl; simp at hl
    have e := (List.dropLast_concat_getLast hne).symm
    obtain ⟨d, hd⟩ : ∃ d, l.dropLast = d := ⟨_, rfl⟩
    obtain ⟨z, hz⟩ : ∃ z, l.getLast hne = z := ⟨_, rfl⟩
    have hdl : d.length = m := by rw [← hd, List.length_dropLast]; omega
    rw [hd, hz] at e
    rw [e] at h hy ⊢
    rw [getR_snoc]
    by_cases hzk : z.key = k
    · rw [if_pos hzk]
      exact h d.length z (by simp) hzk
    · rw [if_neg hzk]
      refine getR_of m d hdl (fun j y hj hk => h j y (by rw [List.getElem?_append_left (List.getElem?_eq_some_iff.1 hj).1]; exact hj) hk) ⟨y, ?_, hyk⟩
      rcases List.mem_append.1 hy with h1 | h1
      · exact h1
      · rw [List.mem_singleton.1 h1] at hyk; exact absurd hyk hzk
theorem rt_un {l : List RtK} (h : rtErr l = 0) (k : Nat) (x : RtK) (hx : l[k]? = some x) : getR x.key l = x.keep ∧ 0 ≤ x.keep ∧ x.keep ≤ 1000000 := by
  refine ⟨getR_of _ l rfl (fun j y hj hk => ?_) ⟨x, List.mem_of_getElem? hx, rfl⟩, rt_keep h hx⟩
  have := rt_one h hj hx hk
  subst this
  rw [hx] at hj
  rw [Option.some.inj hj]
theorem getR_rng {l : List RtK} (h : rtErr l = 0) (k : ByteArray) : 0 ≤ getR k l ∧ getR k l ≤ 1000000 := by
  by_cases hm : ∃ y ∈ l, y.key = k
  · obtain ⟨y, hy, rfl⟩ := hm
    obtain ⟨j, hj⟩ := List.mem_iff_getElem?.1 hy
    have := rt_un h j y hj
    omega
  · have e : ∀ m : List RtK, (∀ y ∈ m, y.key ≠ k) → ∀ v, m.foldl (fun v x => if x.key = k then x.keep else v) v = v := fun m => by
      induction m with
      | nil => intro _ v; rfl
      | cons a m ih =>
        intro hh v
        rw [List.foldl_cons, if_neg (hh a List.mem_cons_self)]
        exact ih (fun y hy => hh y (List.mem_cons_of_mem _ hy)) v
    have : getR k l = 0 := e l (fun y hy hk => hm ⟨y, hy, hk⟩) 0
    omega
theorem rt_len {l : List RtK} (h : rtErr l = 0) : l.length ≤ 200 := by
  by_cases h2 : 200 < l.length
  · rw [rtErr, if_pos h2] at h; cases h
  · omega
theorem qt_ok {Q : List Qt} (h : qtErr Q = 0) : Q.length ≤ 50 ∧ ∀ q ∈ Q, bkErr q.s q.a q.e = 0 := by
  have hl : Q.length ≤ 50 := by
    by_cases h2 : 50 < Q.length
    · rw [qtErr, if_pos h2] at h; cases h
    · omega
  refine ⟨hl, fun q hq => ?_⟩
  obtain ⟨k, hk⟩ := List.mem_iff_getElem?.1 hq
  rw [qtErr, if_neg (by omega)] at h
  have h1 := firstErr_all h k (List.getElem?_eq_some_iff.1 hk).1
  rw [qtErrAt, hk] at h1
  dsimp only at h1
  split at h1
  · split at h1
    · cases h1
    · split at h1
      · exact h1
      · rename_i h2; exact absurd h1 h2
  · cases h1
end Go.Proofs.YtkkhjlomicokgaaGreatDoor

/- The levels of a gate behind a question: plain law (no reference). -/
namespace Go.Proofs.YtkkhjlomicokgaaGreatDoor
set_option linter.unusedVariables false
set_option linter.unusedSimpArgs false
structure VI (Q : List Qt) (V : List Lv) (g : Int) : Prop where
  len : V.length = Q.length
  ok : LvsOk Q V
  t : ∀ x ∈ V, x.t ≤ g
theorem at_lt {l : List Lv} {i n : Nat} (hl : l.length = n) (hi : i < n) : ∃ x, l[i]? = some x := ⟨_, List.getElem?_eq_getElem (by omega)⟩
theorem limV_at {Q : List Qt} {V : List Lv} {t : Int} (hV : V.length = Q.length) : ∀ (m : Nat) (l : List (Fin Q.length)), l.length = m → l.Nodup → ∀ (i : Fin Q.length), (limV Q V t l)[i.val]? = if i ∈ l then some (pourI Q t V i).less else V[i.val]?
  | 0, l, hl, _, i => by
    rw [List.length_eq_zero_iff.1 hl]
    simp [limV]
  | m + 1, l, hl, hn, i => by
    have hne : l ≠ [] := by intro e; rw [e] at hl; simp at hl
    have e := (List.dropLast_concat_getLast hne).symm
    obtain ⟨d, hd⟩ : ∃ d, l.dropLast = d := ⟨_, rfl⟩
    obtain ⟨z, hz⟩ : ∃ z, l.getLast hne = z := ⟨_, rfl⟩
    rw [hd, hz] at e
    have hdl : d.length = m := by rw [← hd, List.length_dropLast]; omega
    rw [e] at hn ⊢
    rw [List.nodup_append] at hn
    have hzd : z ∉ d := fun h9 => hn.2.2 z h9 z (by simp) rfl
    have ih := limV_at (t := t) hV m d hdl hn.1
    rw [limV_snoc]
    have hp : pourI Q t (limV Q V t d) z = pourI Q t V z := by
      unfold pourI
      rw [ih z, if_neg hzd]
    rw [hp]
    by_cases hiz : i = z
    · subst hiz
      rw [List.getElem?_set_self (by rw [limV_len, hV]; exact i.isLt), if_pos (by simp)]
    · have hv : z.val ≠ i.val := fun h9 => hiz (Fin.ext h9.symm)
      rw [List.getElem?_set_ne hv, ih i]
      by_cases hid : i ∈ d
      · rw [if_pos hid, if_pos (by simp [hid])]
      · rw [if_neg hid, if_neg (by simp [hid, hiz])]
theorem fitIx_nodup (Q : List Qt) (key : ByteArray) (k : Nat) : (fitIx Q key k).Nodup := by
  unfold fitIx
  exact ((List.nodup_finRange _).sublist (List.take_sublist _ _)).filter _
theorem fitIx_mem {Q : List Qt} {key : ByteArray} {i : Fin Q.length} : i ∈ fitIx Q key Q.length ↔ fitsB key Q[i] = true := by
  have e : (List.finRange Q.length).take Q.length = List.finRange Q.length := List.take_of_length_le (by simp)
  unfold fitIx
  rw [e, List.mem_filter]
  exact ⟨fun h => h.2, fun h => ⟨List.mem_finRange i, h⟩⟩
theorem VI.asked {Q : List Qt} {V : List Lv} {g t : Int} (h : VI Q V g) (ht : g ≤ t) (hm : t ≤ 3155759999) (RT : List RtK) (TL : List Tl) (id key : ByteArray) :
    VI Q (Go.Proofs.YtkkhjlomicokgaaGreatDoor.askO Q RT V TL id key t).2.1 t := by
  have hup : ∀ x ∈ V, x.t ≤ t := fun x hx => by have := h.t x hx; omega
  unfold Go.Proofs.YtkkhjlomicokgaaGreatDoor.askO
  split
  · exact ⟨h.len, h.ok, hup⟩
  · cases hl : Go.Proofs.YtkkhjlomicokgaaGreatDoor.limF Q V key t with
    | some i => exact ⟨h.len, h.ok, hup⟩
    | none =>
      have hno : ∀ i : Fin Q.length, fitsB key Q[i] = true → (Go.Proofs.YtkkhjlomicokgaaGreatDoor.pourI Q t V i).h ≠ 0 := fun i hf h0 => by
        unfold Go.Proofs.YtkkhjlomicokgaaGreatDoor.limF at hl
        rw [List.find?_eq_none] at hl
        exact hl i (fitIx_mem.2 hf) (by unfold noneLeft; rw [h0]; rfl)
      have hat := fun i => limV_at (t := t) h.len _ (fitIx Q key Q.length) rfl (fitIx_nodup Q key Q.length) i
      have hlen : (limV Q V t (fitIx Q key Q.length)).length = Q.length := by rw [limV_len]; exact h.len
      have hpl : ∀ (i : Nat) q x y, Q[i]? = some q → V[i]? = some x → (limV Q V t (fitIx Q key Q.length))[i]? = some y → (fitsB key q = true ∧ y = (pourL q t x).less ∧ (pourL q t x).h ≠ 0) ∨ (fitsB key q = false ∧ y = x) := fun i q x y hq hx hy => by
        have hi := (List.getElem?_eq_some_iff.1 hq).1
        have hqi : Q[(⟨i, hi⟩ : Fin Q.length)] = q := get_fin ⟨i, hi⟩ rfl hq
        have hpi : Go.Proofs.YtkkhjlomicokgaaGreatDoor.pourI Q t V ⟨i, hi⟩ = pourL q t x := by
          unfold Go.Proofs.YtkkhjlomicokgaaGreatDoor.pourI
          rw [hqi, hx]; rfl
        have h9 := hat ⟨i, hi⟩
        rw [hy, hpi] at h9
        by_cases hf : fitsB key q = true
        · rw [if_pos (fitIx_mem.2 (by rw [hqi]; exact hf))] at h9
          exact .inl ⟨hf, Option.some.inj h9, by rw [← hpi]; exact hno _ (by rw [hqi]; exact hf)⟩
        · rw [if_neg (fun h8 => hf (by rw [← hqi]; exact fitIx_mem.1 h8)), hx] at h9
          exact .inr ⟨by simpa using hf, Option.some.inj h9⟩
      refine ⟨hlen, fun i q y hq hy => ?_, fun y hy => ?_⟩
      · have hi := (List.getElem?_eq_some_iff.1 hq).1
        obtain ⟨x, hx⟩ := at_lt h.len hi
        have hxo := h.ok i q x hq hx
        rcases hpl i q x y hq hx hy with ⟨_, rfl, h0⟩ | ⟨_, rfl⟩
        · exact (hxo.pour (hup x (List.mem_of_getElem? hx)) hm).less h0
        · exact hxo
      · obtain ⟨i, hi⟩ := List.mem_iff_getElem?.1 hy
        have hil := (List.getElem?_eq_some_iff.1 hi).1
        rw [hlen] at hil
        obtain ⟨x, hx⟩ := at_lt h.len hil
        have hq : Q[i]? = some Q[i] := List.getElem?_eq_getElem hil
        rcases hpl i _ x y hq hx hi with ⟨_, rfl, _⟩ | ⟨_, rfl⟩
        · exact Int.le_refl _
        · exact hup y (List.mem_of_getElem? hx)
theorem VI.start {Q : List Qt} {t : Int} (hb : ∀ q ∈ Q, bkErr q.s q.a q.e = 0) (h0 : 0 ≤ t) (h1 : t ≤ 3155759999) : VI Q (Q.map (fullL t)) t := by
  have hat : ∀ (i : Nat) q x, Q[i]? = some q → (Q.map (fullL t))[i]? = some x → x = fullL t q := fun i q x hq hx => by
    rw [List.getElem?_map, hq] at hx
    exact (Option.some.inj hx).symm
  refine ⟨by simp, fun i q x hq hx => ?_, fun x hx => ?_⟩
  · rw [hat i q x hq hx]
    exact LvOk.full (hb q (List.mem_of_getElem? hq)) h0 h1
  · obtain ⟨q, _, rfl⟩ := List.mem_map.1 hx
    exact Int.le_refl _
end Go.Proofs.YtkkhjlomicokgaaGreatDoor
