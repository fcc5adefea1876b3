/- GtCln, GtNew, GtNeB, GtGp: texts of one's own, in one file. -/
import Derived.Test.YtkoijhecahebgaaDoorGtL
import Derived.Test.YtkoijhecahebgaaDoorSlDrop
import Derived.Lib.SliceRun
import Derived.Test.YtkoijhecahebgaaDoorGtRat
import Derived.Test.YtkoijhecahebgaaDoorMapEnt
import Derived.Deep.Onto
import Derived.Test.YtkoijhecahebgaaDoorGtLev
import Derived.Test.YtkoijhecahebgaaDoorGtZA
/- slices.Clone of quotas. -/
namespace Go.Proofs.YtkoijhecahebgaaDoor
open Go.RowKit
set_option linter.unusedVariables false
set_option linter.unusedSimpArgs false
theorem info_quota : (Tryd.prog.info? 58).map (fun i => (i.zero, i.size, i.bytes)) = some (some (.agg #[.string ByteArray.empty, .string ByteArray.empty, .int .i64 0, .int .i64 0, .int .i64 0]), 5, 56) := by kernel_rfl
theorem qt_news {w : World} {B n : Nat} {ad : Addr} {l : List Qt} (h : Sl w B Qt.cs 5 (some ad) n l) : ∀ j u, (l.flatMap Qt.cs)[j]? = some u → w.cell? (ad.add j) = some u := by
  rcases Nat.eq_zero_or_pos n with h0 | h0
  · have : l = [] := List.eq_nil_of_length_eq_zero (by rw [h.len]; exact h0)
    subst this
    intro j u hu
    simp at hu
  · obtain ⟨b, o, e, _⟩ := h.cells h0
    obtain rfl := Option.some.inj e
    exact Sl.news (fun _ => rfl) h
theorem qt_one (l : List Qt) : ∀ u ∈ l.flatMap Qt.cs, u.oneCell' = true := by
  intro u hu
  obtain ⟨x, _, hx⟩ := List.mem_flatMap.1 hu
  simp [Qt.cs] at hx
  rcases hx with rfl | rfl | rfl | rfl | rfl <;> rfl
set_option maxRecDepth 100000 in
set_option maxHeartbeats 1000000 in
theorem CloneQt_any (A : Option Addr) (n c : Nat) (l : List Qt) (w : World) (hn : n ≤ 1000) (hl : Sl w w.heap.size Qt.cs 5 A n l) :
    Calls Tryd.prog 21 #[.slice A n c] w fun e w' => ∃ v, e = .returned v ∧ w'.ownsRow w.heap.size 58 5 v n (l.flatMap Qt.cs) ∧ Below w.heap.size w w' := by
  have HL := hide hl.len
  have q : ∀ (w : World) (a : Option Addr) (n c n' c' : Nat), (binOp .eql 22 (.slice a n c) (.slice none n' c')).run Tryd.prog w = .ok (.bool a.isNone) w := fun w a n c n' c' => Lib.run_eql_slice_nil w _ _ a n c n' c' Tryd.underlying22
  obtain ⟨i0, hi0, iz0, iz1, iz2⟩ := info_parts info_quota
  cases A with
  | none =>
    have h0 : n = 0 := by
      rcases Nat.eq_zero_or_pos n with h0 | h0
      · exact h0
      · obtain ⟨b, o, e, _⟩ := hl.cells h0; cases e
    subst h0
    obtain rfl : l = [] := List.eq_nil_of_length_eq_zero HL.out
    go_enter Tryd.func21, Tryd.ntmps21
    go_wp2_with (fail)
    go_ret
    exact ⟨_, rfl, World.ownsRow_nil _ _ _ _, Below.refl _ _⟩
  | some ad =>
    have hnew := hide (qt_news (Sl.up hl ((Below.refl _ _).alloc (Nat.le_refl _) (.cells #[] 58))))
    have hB : Below w.heap.size w (w.alloc (.cells #[] 58)) := (Below.refl _ _).alloc (Nat.le_refl _) _
    have HB := hide hB
    clear hB
    go_enter Tryd.func21, Tryd.ntmps21
    go_wp2_with (at_builtin; refine wpList_append_own _ rfl (.tmp 5) (.tmp 6) 22 rfl w.heap.size 58 i0 (.agg #[.string ByteArray.empty, .string ByteArray.empty, .int .i64 0, .int .i64 0, .int .i64 0]) 5 56 Tryd.underlying22 hi0 iz0 iz1 iz2 rfl (by decide) _ 0 _ (by rfl) (World.ownsRow_lit w #[] 0 (Nat.le_refl _) (Nat.zero_le _) rfl) ad n _ (l.flatMap Qt.cs) (by rfl) (by rw [flatMap_len (sz := 5) (fun _ => rfl), HL.out]) hnew.out (qt_one _) (by unfold maxLen; omega) (by omega) HB.out.size ?_; intro v' w5 hown5 hg5 _; have hB5 : Below w.heap.size w w5 := Below.grown HB.out hg5 HB.out.size (fun j hj => by simp [Value.ownBlock] at hj; omega); clear hg5)
    go_ret
    have hown6 : w5.ownsRow w.heap.size 58 5 v' n (l.flatMap Qt.cs) := by simpa using hown5
    exact ⟨v', rfl, hown6, hB5⟩
end Go.Proofs.YtkoijhecahebgaaDoor

/- NewGate of the program. -/
namespace Go.Proofs.YtkoijhecahebgaaDoor
open Go.RowKit Go.Maps
set_option linter.unusedVariables false
set_option linter.unusedSimpArgs false
def newE (Q : List Qt) (RT : List RtK) (t : Int) : Int := if qtErr Q = 0 then (if rtErr RT = 0 then (if outsideB t 0 3155759999 then 2 else 0) else rtErr RT) else qtErr Q
/-- A gate that was made. -/
structure Made (w w' : World) (Q : List Qt) (RT : List RtK) (t : Int) (p n qc lc rb tb m : Nat) (qA lA : Option Addr) (RD : DataW Unit) : Prop where
  box : w'.heap[p]? = some (.cells #[.slice qA n qc, .slice lA n lc, .map (some rb), .int .i64 t, .map (some tb)] 64 (0, 0))
  quo : w'.ownsRow w.heap.size 58 5 (.slice qA n qc) n (Q.flatMap Qt.cs)
  lev : w'.ownsRow w.heap.size 46 3 (.slice lA n lc) n ((Q.map (fullL t)).flatMap Lv.cs)
  rat : w'.ownsMap Tryd.prog 9 (plainElem Tryd.prog 3) rb m RD
  rds : MapR RD RT
  tal : w'.ownsMap Tryd.prog 81 (plainElem Tryd.prog 3) tb 0 (DataW.map (H := Unit) [])
  pl : w.heap.size ≤ p
  rl : w.heap.size ≤ rb
  tl : w.heap.size ≤ tb
  ne : rb ≠ tb
  be : Below w.heap.size w w'
theorem info_levelN : (Tryd.prog.info? 46).map (fun i => (i.zero, i.size, i.bytes)) = some (some (.agg #[.int .i64 0, .int .i64 0, .int .i64 0]), 3, 24) := by kernel_rfl
set_option maxRecDepth 100000 in
set_option maxHeartbeats 8000000 in
theorem NewGate_ok (n qc0 rn rc : Nat) (qA0 rA : Option Addr) (Q : List Qt) (RT : List RtK) (t : Int) (w : World) (hn : n ≤ maxLen) (hq : Sl w w.heap.size Qt.cs 5 qA0 n Q) (hqf : QtFit Q) (hrn : rn ≤ maxLen) (hr : Sl w w.heap.size RtK.cs 2 rA rn RT) (hrf : RkFit RT) (hE : newE Q RT t = 0) :
    Calls Tryd.prog 5 #[.slice qA0 n qc0, .slice rA rn rc, .int .i64 t] w fun e w' => ∃ p qc lc rb tb m qA lA RD, e = .returned (.tuple #[.pointer (some ⟨p, 0, none⟩), .int .i64 0]) ∧ Made w w' Q RT t p n qc lc rb tb m qA lA RD := by
  have hql := hq.len
  have h1 : qtErr Q = 0 := by
    unfold newE at hE
    split at hE
    · assumption
    · exact hE
  have h2 : rtErr RT = 0 := by
    unfold newE at hE
    rw [if_pos h1] at hE
    split at hE
    · assumption
    · exact hE
  have h3 : outsideB t 0 3155759999 = false := by
    unfold newE at hE
    rw [if_pos h1, if_pos h2] at hE
    split at hE
    · cases hE
    · rename_i h; simpa using h
  have hn50 : n ≤ 50 := by
    by_cases h : 50 < Q.length
    · rw [qtErr, if_pos h] at h1; cases h1
    · omega
  obtain ⟨i0, hi0, iz0, iz1, iz2⟩ := info_parts info_levelN
  have HC := hide (h1 ▸ CheckQuotas_any qA0 n qc0 Q w hn hq hqf)
  have HL := hide (fun (W : World) (h : Below w.heap.size w W) => CloneQt_any qA0 n qc0 Q W (by omega) (Sl.up hq h))
  have HM := hide (fun W => isMoment_any t W)
  rw [h3] at HM
  have HQ := hide hq
  have HR := hide hr
  have H2 := hide h2
  have hmm := @run_makeMap Tryd.prog
  clear h1 h2 h3 hE hq hr
  go_enter Tryd.func5, Tryd.ntmps5
  go_wp2_with (first | (go_at_call 7; refine HC.out.mono ?_; rintro e w1 ⟨rfl, hw1⟩; have HW1 := hide hw1; clear hw1) | (go_at_call 21; refine (HL.out _ HW1.out).mono ?_; rintro e w2 ⟨v, rfl, hown, hw2⟩; obtain ⟨qA, qc, rfl⟩ := own_sl hown; have HO := hide hown; have HW2 := hide (HW1.out.trans (hw2.mono HW1.out.size)); have hz12 := hw2.size; clear hown hw2) )
  clear hmm
  have hz2 := HW2.out.size
  obtain ⟨p, hp⟩ : ∃ p, w2.heap.size + 1 = p := ⟨_, rfl⟩
  obtain ⟨tb, htb⟩ : ∃ tb, w2.heap.size = tb := ⟨_, rfl⟩
  obtain ⟨wb, hwb, hbb, hsb, hb1, hb2⟩ : ∃ wb, (w2.alloc (.map #[] 0)).alloc (.cells #[.slice qA n qc, .slice none 0 0, .map none, .int .i64 t, .map (some tb)] 64) = wb ∧ Below w2.heap.size w2 wb ∧ wb.heap.size = w2.heap.size + 2 ∧ wb.heap[p]? = some (.cells #[.slice qA n qc, .slice none 0 0, .map none, .int .i64 t, .map (some tb)] 64 (0, 0)) ∧ wb.ownsMap Tryd.prog 81 (plainElem Tryd.prog 3) tb 0 (DataW.map (H := Unit) []) :=
    ⟨_, rfl, ((Below.refl _ _).alloc (Nat.le_refl _) _).alloc (by simp) _, by simp, by
      have h := heap_alloc_new (w2.alloc (.map #[] 0)) (.cells #[.slice qA n qc, .slice none 0 0, .map none, .int .i64 t, .map (some tb)] 64)
      rw [World.size_alloc, hp] at h; exact h, by
      have h := (World.ownsMap_made (H := Unit) w2 Tryd.prog 81 (plainElem Tryd.prog 3)).alloc (.cells #[.slice qA n qc, .slice none 0 0, .map none, .int .i64 t, .map (some tb)] 64)
      rw [htb] at h; exact h⟩
  rw [hp, htb, hwb]
  have HWB := hide (HW2.out.trans (hbb.mono hz2))
  have hzb := HWB.out.size
  have HOB := hide (own_below HO.out hbb)
  have CR := hide (Rates_ok p w.heap.size rn rc rA RT _ _ _ _ _ wb hrn ((HR.out.below HWB.out).more hzb) hrf hb1 (by omega) (fun h0 b o e => by
    obtain ⟨b', o', e', hlt, _⟩ := HR.out.cells h0
    rw [e] at e'; cases e'
    omega))
  rw [H2.out] at CR
  refine CR.out.mono ?_
  rintro e w3 ⟨rfl, _, h3⟩
  obtain ⟨rb, RD, m, hrb, hg3, hR3, hRD, hm, hk3⟩ := h3 rfl
  have HK3 := hide hk3
  have hT3 := ownsMap_block (w' := w3) hb2 (by
    obtain ⟨es, ck, hh, _⟩ := (show _ from hb2)
    rw [hh]; exact hk3.keep tb _ hh (by omega))
  have HT3 := hide hT3
  have HG3 := hide hg3
  have HR3 := hide hR3
  have HRD := hide hRD
  have HO3 := hide (own_stay HOB.out (fun k o e ho => hk3.keep k o ho (fun e2 => by
    have h9 := (HO.out.lt k e).2; omega)))
  have hb3 := hk3.be
  have HB3 := hide (HWB.out.trans hk3.be)
  have hz3 := hk3.be.size
  have hp3 := lt_of_block hg3
  have hrl := hR3.lt
  have htl := hT3.lt
  have hol := HO3.out.lt
  have htb2 : tb < w2.heap.size + 2 := by omega
  clear hk3 hT3 hg3 hR3 hRD hb3 hwb hbb hb1 hb2 CR
  go_wp2_with (first | (go_at_call 22; refine (HM.out _).mono ?_; rintro e w' ⟨rfl, rfl⟩))
  go_loopw [35] (fun i wr => ∃ (k : Nat) (vA : Option Addr) (vc : Nat), i = .int .i64 (k : Int) ∧ k ≤ n ∧ wr.heap[p]? = some (.cells #[.slice qA n qc, .slice vA k vc, .map (some rb), .int .i64 t, .map (some tb)] 64 (0, 0)) ∧ wr.ownsRow w3.heap.size 46 3 (.slice vA k vc) k (((Q.take k).map (fullL t)).flatMap Lv.cs) ∧ Keep w.heap.size (fun k => k = p) w3 wr)
    (fun i _ => n - (intOf i).toNat)
  case atStart => exact ⟨0, none, 0, rfl, Nat.zero_le _, HG3.out, World.ownsRow_nil _ _ _ _, Keep.refl _ _ _⟩
  case round =>
    obtain ⟨k, vA, vc, rfl, hk, hbx, hrow, hK⟩ := hrel
    have hzr := hK.be.size
    have hpl := lt_of_block hbx
    have HK := hide hK
    have HBX := hide hbx
    have HROW := hide hrow
    by_cases hlt : k < n
    · have hki : (k : Int) < (n : Int) := by omega
      have hQw : Sl wr w.heap.size Qt.cs 5 qA0 n Q := (HQ.out.below HB3.out).stay (U := fun k => k ≠ p) (fun k o h u => hK.keep k o h u) (fun h0 b o e => by
        obtain ⟨b', o', e', hl, _⟩ := HQ.out.cells h0
        rw [e] at e'; cases e'
        omega)
      obtain ⟨qb, qo, q, rfl, hqb, hqx, hqc⟩ := hQw.at_ hlt
      have q0 : wr.cell? ⟨qb, qo + k * 5, none⟩ = some (.string q.name) := by simpa using hqc 0 _ rfl
      have q1 : wr.cell? ⟨qb, qo + k * 5 + 1, none⟩ = some (.string q.key) := by simpa using hqc 1 _ rfl
      have q2 : wr.cell? ⟨qb, qo + k * 5 + 2, none⟩ = some (.int .i64 q.s) := by simpa using hqc 2 _ rfl
      have q3 : wr.cell? ⟨qb, qo + k * 5 + 3, none⟩ = some (.int .i64 q.a) := by simpa using hqc 3 _ rfl
      have q4 : wr.cell? ⟨qb, qo + k * 5 + 4, none⟩ = some (.int .i64 q.e) := by simpa using hqc 4 _ rfl
      have HTK := hide (take_succ_get hqx)
      have CF := hide (fun W => full_any q.s q.a q.e t W)
      unfold v3 at CF
      obtain ⟨wq, hwq⟩ : ∃ wq, wr.alloc (.cells #[.string q.name, .string q.key, .int .i64 q.s, .int .i64 q.a, .int .i64 q.e] 58) = wq := ⟨_, rfl⟩
      have hnq : wq.heap[wr.heap.size]? = some (.cells #[.string q.name, .string q.key, .int .i64 q.s, .int .i64 q.a, .int .i64 q.e] 58 (0, 0)) := hwq ▸ heap_alloc_new wr _
      have hbq : Below wr.heap.size wr wq := hwq ▸ (Below.refl _ _).alloc (Nat.le_refl _) _
      have HBQ := hide hbq
      have HSS := hide (show ∀ W', Below wq.heap.size wq W' → (fun W' => W'.cell? ⟨p, 1, none⟩ = some (.slice vA k vc) ∧ W'.cell? ⟨wr.heap.size, 2, none⟩ = some (.int .i64 q.s) ∧ W'.cell? ⟨wr.heap.size, 3, none⟩ = some (.int .i64 q.a) ∧ W'.cell? ⟨wr.heap.size, 4, none⟩ = some (.int .i64 q.e)) W' from fun W' hb => ⟨(block_cell (block_below (block_below hbx hbq) hb) 1).trans rfl, (block_cell (block_below hnq hb) 2).trans rfl, (block_cell (block_below hnq hb) 3).trans rfl, (block_cell (block_below hnq hb) 4).trans rfl⟩)
      clear hqc hqx hQw hnq hbx hrow hK
      go_wp2_with (fail)
      (try rw [hwq])
      refine wp_region_chain (fun W' => W'.cell? ⟨p, 1, none⟩ = some (.slice vA k vc) ∧ W'.cell? ⟨wr.heap.size, 2, none⟩ = some (.int .i64 q.s) ∧ W'.cell? ⟨wr.heap.size, 3, none⟩ = some (.int .i64 q.a) ∧ W'.cell? ⟨wr.heap.size, 4, none⟩ = some (.int .i64 q.e)) 10 (by as_aux_lemma => kernel_rfl) (N := 14) (by as_aux_lemma => kernel_rfl) ?_; intro hsh
      have HS := HSS.out wq.drew (below_drewN (Below.refl _ _) 1)
      refine wpAnyC_take0 (i := 0) (k := 10) (v := ?_) (d := some 39) rfl (by rfl) (by as_aux_lemma => kernel_rfl) (by as_aux_lemma => kernel_rfl) (by as_aux_lemma => kernel_rfl) hsh (by decide) (by intro _ _ _ h; exact h) (by assumption) (Or.inl ⟨by rfl, ?hy⟩) ?_; (case hy => (intro W _; go_simp; (try with_reducible rfl))); clear hsh; intro hsh
      refine wpAnyC_take0 (i := 1) (k := 10) (v := ?_) (d := some 40) rfl (by rfl) (by as_aux_lemma => kernel_rfl) (by as_aux_lemma => kernel_rfl) (by as_aux_lemma => kernel_rfl) hsh (by decide) (by intro _ _ _ h; exact h) (by assumption) (Or.inl ⟨by rfl, ?hy⟩) ?_; (case hy => (intro W _; go_simp; (try with_reducible rfl))); clear hsh; intro hsh
      refine wpAnyC_take0 (i := 2) (k := 10) (v := ?_) (d := some 41) rfl (by rfl) (by as_aux_lemma => kernel_rfl) (by as_aux_lemma => kernel_rfl) (by as_aux_lemma => kernel_rfl) hsh (by decide) (by intro _ _ _ h; exact h) (by assumption) (Or.inl ⟨by rfl, ?hy⟩) ?_; (case hy => (intro W _; go_simp; (try with_reducible rfl))); clear hsh; intro hsh
      refine wpAnyC_take0 (i := 3) (k := 10) (v := ?_) (d := some 42) rfl (by rfl) (by as_aux_lemma => kernel_rfl) (by as_aux_lemma => kernel_rfl) (by as_aux_lemma => kernel_rfl) hsh (by decide) (by intro _ _ _ h; exact h) (by assumption) (Or.inl ⟨by rfl, ?hy⟩) ?_; (case hy => (intro W _; go_simp; (try with_reducible rfl))); clear hsh; intro hsh
      refine wpAnyC_take (i := 4) (k := 10) (f := 40) (v := ?_) (d := some 43) rfl (by rfl) (by as_aux_lemma => kernel_rfl) (by as_aux_lemma => kernel_rfl) (by as_aux_lemma => kernel_rfl) hsh (by decide) (by as_aux_lemma => kernel_rfl) (by intro _ _ _ h; exact h) (by assumption) (Or.inl ⟨by rfl, ?hy⟩) ?_; (case hy => (rintro W ⟨b0, b1, b2, b3⟩; go_simp; (try with_reducible rfl))); clear hsh; intro hsh
      refine wpAnyC_take0 (i := 5) (k := 10) (v := ?_) (d := some 44) rfl (by rfl) (by as_aux_lemma => kernel_rfl) (by as_aux_lemma => kernel_rfl) (by as_aux_lemma => kernel_rfl) hsh (by decide) (by intro _ _ _ h; exact h) (by assumption) (Or.inl ⟨by rfl, ?hy⟩) ?_; (case hy => (intro W _; go_simp; (try with_reducible rfl))); clear hsh; intro hsh
      refine wpAnyC_take (i := 6) (k := 10) (f := 40) (v := ?_) (d := some 45) rfl (by rfl) (by as_aux_lemma => kernel_rfl) (by as_aux_lemma => kernel_rfl) (by as_aux_lemma => kernel_rfl) hsh (by decide) (by as_aux_lemma => kernel_rfl) (by intro _ _ _ h; exact h) (by assumption) (Or.inl ⟨by rfl, ?hy⟩) ?_; (case hy => (rintro W ⟨b0, b1, b2, b3⟩; go_simp; (try with_reducible rfl))); clear hsh; intro hsh
      refine wpAnyC_take0 (i := 7) (k := 10) (v := ?_) (d := some 46) rfl (by rfl) (by as_aux_lemma => kernel_rfl) (by as_aux_lemma => kernel_rfl) (by as_aux_lemma => kernel_rfl) hsh (by decide) (by intro _ _ _ h; exact h) (by assumption) (Or.inl ⟨by rfl, ?hy⟩) ?_; (case hy => (intro W _; go_simp; (try with_reducible rfl))); clear hsh; intro hsh
      refine wpAnyC_ready (rs := [8]) (by as_aux_lemma => kernel_rfl) (by simp) ?_; refine AllC.cons (i := 8) rfl (by as_aux_lemma => kernel_rfl) hsh (fun K hK => ?_) AllC.nil
      go_simp
      go_at_call 23
      refine (CF.out wq.drew).mono ?_
      rintro e w4 ⟨rfl, hb4⟩
      have hb4' : Below wq.heap.size wq w4 := (below_drewN (Below.refl _ _) 1).trans hb4
      try go_simp
      have HS4 := HSS.out w4 hb4'
      have HSA := HSS.out (w4.alloc (.cells #[.int .i64 q.s, .int .i64 t, .int .i64 0] 46)) (hb4'.alloc hb4'.size _)
      refine hK _ _ (fun _ => HS4) ?_
      clear hK K hsh HS hb4
      intro hsh
      refine wpAnyC_ready (rs := [9]) (by as_aux_lemma => kernel_rfl) (by simp) ?_; refine AllC.cons (i := 9) rfl (by as_aux_lemma => kernel_rfl) hsh (fun K hK => ?_) AllC.nil
      go_simp
      refine hK _ _ (fun _ => HSA) ?_
      clear hK K hsh
      intro hsh
      refine wpAnyC_tail (by as_aux_lemma => kernel_rfl) (by simp) (by as_aux_lemma => kernel_rfl) ?_; simp only [List.drop_succ_cons, List.drop_zero]; clear hsh
      have hbr := hbq.trans (hb4'.mono hbq.size)
      have HBR := hide hbr
      have hz4 := hbr.size
      have HR4 := hide (own_below HROW.out hbr)
      have HG4 := hide (block_below HBX.out hbr)
      have hlo4 := HR4.out.lt
      clear hbr hb4' hbq
      go_wp2_with (first | (at_builtin; refine wpList_append_own _ rfl (.tmp 43) (.tmp 48) 38 rfl w3.heap.size 46 i0 (.agg #[.int .i64 0, .int .i64 0, .int .i64 0]) 3 24 Tryd.underlying38 hi0 iz0 iz1 iz2 rfl (by decide) (.slice vA k vc) k (((Q.take k).map (fullL t)).flatMap Lv.cs) (by go_simp) (HR4.out.alloc _) ⟨w4.heap.size, 0, none⟩ 1 1 [.int .i64 q.s, .int .i64 t, .int .i64 0] (by go_simp) rfl (cells_at _ [.int .i64 q.s, .int .i64 t, .int .i64 0] _ _ rfl) (by intro u hu; simp at hu; rcases hu with rfl | rfl | rfl <;> rfl) (by unfold maxLen; omega) (by omega) (by simp; omega) ?_; intro v8 w8 hown8 hg8 _; obtain ⟨A8, c8, rfl⟩ := own_sl hown8; have HO8 := hide hown8; have hg8' := hg8; have HG8 := hide ((hg8.block p (by simp; omega) (fun e => by have := (hlo4 p e.symm).1; omega)).trans (block_below HG4.out ((Below.refl _ _).alloc (Nat.le_refl _) _))); have y1 : w8.cell? ⟨p, 1, none⟩ = some (.slice vA k vc) := (block_cell HG8.out 1).trans rfl; have yf : w8.frozen? ⟨p, 1, none⟩ = false := block_free HG8.out 1; have HX8 := hide hg8; clear hown8 hg8 hg8'))
      go_roundw
      case rel =>
        refine ⟨k + 1, A8, c8, by go_num, by omega, (block_set (i := 1) HG8.out _).trans rfl, ?_, ?_⟩
        · rw [HTK.out, List.map_append, List.flatMap_append]
          exact own_stay HO8.out (fun k' o e ho => block_set_other ho _ _ (by have := (HO8.out.lt k' e).1; show k' ≠ p; omega))
        · have hbe : Below w.heap.size w4 w8 := ((Below.refl w.heap.size w4).alloc (by omega) _).grown HX8.out (by simp; omega) (fun j hj => by have := (hlo4 j hj).1; omega)
          refine ⟨(HK.out.be.trans ((HBR.out.mono (by omega)).trans hbe)).setCell (p := ⟨p, 1, none⟩) (by show _ ≤ p; omega) _, fun k' o e ne => ?_⟩
          have hl := lt_of_block e
          have e2 := block_below (block_below (HK.out.keep k' o e ne) HBR.out) ((Below.refl _ _).alloc (Nat.le_refl _) (.cells #[.int .i64 q.s, .int .i64 t, .int .i64 0] 46))
          exact block_set_other ((HX8.out.block k' (lt_of_block e2) (fun e3 => by have := (hlo4 k' e3.symm).1; omega)).trans e2) _ _ ne
      case measure => simp [intOf]; omega
    · have hki : ¬ (k : Int) < (n : Int) := by omega
      obtain rfl : n = k := by omega
      have HTK := hide (take_len Q (Nat.le_of_eq hql))
      go_wp2_with (fail)
      refine bodyPost_ret (by simp [results, Tryd.results5, go_sem]; try rfl) rfl ?_
      refine ⟨p, rfl, qc, vc, rb, tb, m, qA, vA, RD, hbx, ?_, ?_, ?_, HRD.out, ?_, by omega, by omega, by omega, by omega, HB3.out.trans hK.be⟩
      · exact World.ownsRow.mono (own_stay HO3.out (fun k o e ho => hK.keep k o ho (fun e2 => by have h9 := (HO.out.lt k e).2; omega))) HW1.out.size
      · have hTK := HTK.out
        rw [hTK] at hrow
        exact World.ownsRow.mono hrow (by omega)
      · refine ownsMap_block HR3.out ?_
        obtain ⟨es, ck, hh, _⟩ := (show _ from HR3.out)
        rw [hh]; exact hK.keep rb _ hh (by omega)
      · refine ownsMap_block HT3.out ?_
        obtain ⟨es, ck, hh, _⟩ := (show _ from HT3.out)
        rw [hh]; exact hK.keep tb _ hh (by omega)
end Go.Proofs.YtkoijhecahebgaaDoor

/- NewGate of the program, where it refuses. -/
namespace Go.Proofs.YtkoijhecahebgaaDoor
open Go.RowKit Go.Maps
set_option linter.unusedVariables false
set_option linter.unusedSimpArgs false
set_option maxRecDepth 100000 in
set_option maxHeartbeats 8000000 in
theorem NewGate_bad (n qc0 rn rc : Nat) (qA0 rA : Option Addr) (Q : List Qt) (RT : List RtK) (t : Int) (w : World) (hn : n ≤ maxLen) (hq : Sl w w.heap.size Qt.cs 5 qA0 n Q) (hqf : QtFit Q) (hrn : rn ≤ maxLen) (hr : Sl w w.heap.size RtK.cs 2 rA rn RT) (hrf : RkFit RT) (hE : newE Q RT t ≠ 0) :
    Calls Tryd.prog 5 #[.slice qA0 n qc0, .slice rA rn rc, .int .i64 t] w fun e w' => e = .returned (.tuple #[.pointer none, .int .i64 (newE Q RT t)]) ∧ Below w.heap.size w w' := by
  have hql := hq.len
  have hn50 : qtErr Q = 0 → n ≤ 50 := fun h1 => by
    by_cases h : 50 < Q.length
    · rw [qtErr, if_pos h] at h1; cases h1
    · omega
  have HC := hide (CheckQuotas_any qA0 n qc0 Q w hn hq hqf)
  have HL := hide (fun (W : World) (h : Below w.heap.size w W) (h2 : n ≤ 1000) => CloneQt_any qA0 n qc0 Q W h2 (Sl.up hq h))
  have HM := hide (fun W => isMoment_any t W)
  have HR := hide hr
  have HE := hide hE
  have hmm := @run_makeMap Tryd.prog
  by_cases h1 : qtErr Q = 0
  · have hn1 : n ≤ 1000 := by have := hn50 h1; omega
    rw [h1] at HC
    by_cases h2 : rtErr RT = 0
    · have h3 : outsideB t 0 3155759999 = true := by
        unfold newE at hE
        rw [if_pos h1, if_pos h2] at hE
        split at hE
        · assumption
        · exact absurd rfl hE
      have E := hide (show newE Q RT t = 2 by rw [newE, if_pos h1, if_pos h2, if_pos h3])
      rw [h3] at HM
      have H2 := hide h2
      clear hq hr h1 h2 h3 hE hn50
      go_enter Tryd.func5, Tryd.ntmps5
      go_wp2_with (first | (go_at_call 7; refine HC.out.mono ?_; rintro e w1 ⟨rfl, hw1⟩; have HW1 := hide hw1; clear hw1) | (go_at_call 21; refine (HL.out _ HW1.out hn1).mono ?_; rintro e w2 ⟨v, rfl, hown, hw2⟩; obtain ⟨qA, qc, rfl⟩ := own_sl hown; have HW2 := hide (HW1.out.trans (hw2.mono HW1.out.size)); clear hown hw2))
      clear hmm
      have hz2 := HW2.out.size
      obtain ⟨p, hp⟩ : ∃ p, w2.heap.size + 1 = p := ⟨_, rfl⟩
      obtain ⟨tb, htb⟩ : ∃ tb, w2.heap.size = tb := ⟨_, rfl⟩
      obtain ⟨wb, hwb, hbb, hsb, hb1⟩ : ∃ wb, (w2.alloc (.map #[] 0)).alloc (.cells #[.slice qA n qc, .slice none 0 0, .map none, .int .i64 t, .map (some tb)] 64) = wb ∧ Below w2.heap.size w2 wb ∧ wb.heap.size = w2.heap.size + 2 ∧ wb.heap[p]? = some (.cells #[.slice qA n qc, .slice none 0 0, .map none, .int .i64 t, .map (some tb)] 64 (0, 0)) :=
        ⟨_, rfl, ((Below.refl _ _).alloc (Nat.le_refl _) _).alloc (by simp) _, by simp, by
          have h := heap_alloc_new (w2.alloc (.map #[] 0)) (.cells #[.slice qA n qc, .slice none 0 0, .map none, .int .i64 t, .map (some tb)] 64)
          rw [World.size_alloc, hp] at h; exact h⟩
      rw [hp, htb, hwb]
      have HWB := hide (HW2.out.trans (hbb.mono hz2))
      have hzb := HWB.out.size
      have CR := hide (Rates_ok p w.heap.size rn rc rA RT _ _ _ _ _ wb hrn ((HR.out.below HWB.out).more hzb) hrf hb1 (by omega) (fun h0 b o e => by
        obtain ⟨b', o', e', hlt, _⟩ := HR.out.cells h0
        rw [e] at e'; cases e'
        omega))
      refine CR.out.mono ?_
      rintro e w3 ⟨rfl, _, h3⟩
      obtain ⟨rb, RD, m, _, _, _, _, _, hk3⟩ := h3 H2.out
      rw [H2.out]
      have HB3 := hide (HWB.out.trans hk3.be)
      clear hk3 CR
      go_wp2_with (first | (go_at_call 22; refine (HM.out _).mono ?_; rintro e w' ⟨rfl, rfl⟩))
      refine bodyPost_ret (by simp [results, Tryd.results5, go_sem]; try rfl) rfl ?_
      exact ⟨by rw [E.out], HB3.out⟩
    · have hne : (rtErr RT == 0) = false := by simpa using h2
      have E := hide (show newE Q RT t = rtErr RT by rw [newE, if_pos h1, if_neg h2])
      have H2 := hide h2
      clear hq hr h1 h2 hE hn50
      go_enter Tryd.func5, Tryd.ntmps5
      go_wp2_with (first | (go_at_call 7; refine HC.out.mono ?_; rintro e w1 ⟨rfl, hw1⟩; have HW1 := hide hw1; clear hw1) | (go_at_call 21; refine (HL.out _ HW1.out hn1).mono ?_; rintro e w2 ⟨v, rfl, hown, hw2⟩; obtain ⟨qA, qc, rfl⟩ := own_sl hown; have HW2 := hide (HW1.out.trans (hw2.mono HW1.out.size)); clear hown hw2))
      clear hmm
      have hz2 := HW2.out.size
      obtain ⟨p, hp⟩ : ∃ p, w2.heap.size + 1 = p := ⟨_, rfl⟩
      obtain ⟨tb, htb⟩ : ∃ tb, w2.heap.size = tb := ⟨_, rfl⟩
      obtain ⟨wb, hwb, hbb, hsb, hb1⟩ : ∃ wb, (w2.alloc (.map #[] 0)).alloc (.cells #[.slice qA n qc, .slice none 0 0, .map none, .int .i64 t, .map (some tb)] 64) = wb ∧ Below w2.heap.size w2 wb ∧ wb.heap.size = w2.heap.size + 2 ∧ wb.heap[p]? = some (.cells #[.slice qA n qc, .slice none 0 0, .map none, .int .i64 t, .map (some tb)] 64 (0, 0)) :=
        ⟨_, rfl, ((Below.refl _ _).alloc (Nat.le_refl _) _).alloc (by simp) _, by simp, by
          have h := heap_alloc_new (w2.alloc (.map #[] 0)) (.cells #[.slice qA n qc, .slice none 0 0, .map none, .int .i64 t, .map (some tb)] 64)
          rw [World.size_alloc, hp] at h; exact h⟩
      rw [hp, htb, hwb]
      have HWB := hide (HW2.out.trans (hbb.mono hz2))
      have hzb := HWB.out.size
      have CR := hide (Rates_ok p w.heap.size rn rc rA RT _ _ _ _ _ wb hrn ((HR.out.below HWB.out).more hzb) hrf hb1 (by omega) (fun h0 b o e => by
        obtain ⟨b', o', e', hlt, _⟩ := HR.out.cells h0
        rw [e] at e'; cases e'
        omega))
      refine CR.out.mono ?_
      rintro e w3 ⟨rfl, h3, _⟩
      have HB3 := hide (HWB.out.trans ((h3 H2.out).mono hzb))
      clear h3 CR
      go_wp2_with (fail)
      refine bodyPost_ret (by simp [results, Tryd.results5, go_sem]; try rfl) rfl ?_
      exact ⟨by rw [E.out], HB3.out⟩
  · have hne : (qtErr Q == 0) = false := by simpa using h1
    have E := hide (show newE Q RT t = qtErr Q by rw [newE, if_neg h1])
    clear hq hr h1 hE hn50
    go_enter Tryd.func5, Tryd.ntmps5
    go_wp2_with (first | (go_at_call 7; refine HC.out.mono ?_; rintro e w1 ⟨rfl, hw1⟩; have HW1 := hide hw1; clear hw1))
    refine bodyPost_ret (by simp [results, Tryd.results5, go_sem]; try rfl) rfl ?_
    exact ⟨by rw [E.out], HW1.out⟩
end Go.Proofs.YtkoijhecahebgaaDoor

/- The program's gate in memory, and Ask over it. -/
namespace Go.Proofs.YtkoijhecahebgaaDoor
open Go.RowKit Go.Maps
set_option linter.unusedVariables false
set_option linter.unusedSimpArgs false
structure GP (B : Nat) (W : World) (p n qc lc rb tb m tn : Nat) (qA lA : Option Addr) (RD : DataW Unit) (Q : List Qt) (RT : List RtK) (g : Int) (V : List Lv) (TL : List Tl) : Prop where
  box : W.heap[p]? = some (.cells #[.slice qA n qc, .slice lA n lc, .map (some rb), .int .i64 g, .map (some tb)] 64 (0, 0))
  quo : W.ownsRow B 58 5 (.slice qA n qc) n (Q.flatMap Qt.cs)
  lev : W.ownsRow B 46 3 (.slice lA n lc) n (V.flatMap Lv.cs)
  rat : W.ownsMap Tryd.prog 9 (plainElem Tryd.prog 3) rb m RD
  rds : MapR RD RT
  tal : ∃ D, W.ownsMap Tryd.prog 81 (plainElem Tryd.prog 3) tb tn D ∧ MapT D TL
  pl : B ≤ p
  rl : B ≤ rb
  tl : B ≤ tb
  ne : rb ≠ tb
section
variable {B : Nat} {W W' : World} {p n qc lc rb tb m tn : Nat} {qA lA : Option Addr} {RD : DataW Unit} {Q : List Qt} {RT : List RtK} {g t : Int} {V V' : List Lv} {TL TL' : List Tl}
theorem map_blk {w : World} {k b n : Nat} {e : TypeId} {D : DataW Unit} (h : w.ownsMap Tryd.prog k (plainElem Tryd.prog e) b n D) : ∃ es ck, w.heap[b]? = some (.map es ck) := by
  obtain ⟨es, ck, hh, _⟩ := (show _ from h)
  exact ⟨es, ck, hh⟩
theorem row_blk {w : World} {base sz n k : Nat} {e : TypeId} {v : Value} {xs : List Value} (h : w.ownsRow base e sz v n xs) (hk : v.ownBlock = some k) : ∃ cur, w.heap[k]? = some (.cells cur e (0, 0)) := by
  rcases h.2 with h1 | ⟨g, cap, cur, q1, q2, q3, q4⟩
  · rw [h1.1] at hk; cases hk
  · rw [q1] at hk
    obtain rfl : g = k := Option.some.inj hk
    exact ⟨cur, q3⟩
theorem GP.made {w : World} (h : Made w W Q RT t p n qc lc rb tb m qA lA RD) : GP w.heap.size W p n qc lc rb tb m 0 qA lA RD Q RT t (Q.map (fullL t)) [] :=
  ⟨h.box, h.quo, h.lev, h.rat, h.rds, ⟨_, h.tal, MapT.empty⟩, h.pl, h.rl, h.tl, h.ne⟩
theorem GP.below (h : GP B W p n qc lc rb tb m tn qA lA RD Q RT g V TL) (hb : Below W.heap.size W W') : GP B W' p n qc lc rb tb m tn qA lA RD Q RT g V TL := by
  obtain ⟨D, h1, h2⟩ := h.tal
  exact ⟨block_below h.box hb, own_below h.quo hb, own_below h.lev hb, h.rat.kept (grown_of_below hb) (by simp), h.rds, ⟨D, h1.kept (grown_of_below hb) (by simp), h2⟩, h.pl, h.rl, h.tl, h.ne⟩
theorem GP.qsep (h : GP B W p n qc lc rb tb m tn qA lA RD Q RT g V TL) {k : Nat} (hk : (Value.slice qA n qc).ownBlock = some k) : k ≠ p ∧ k ≠ tb ∧ k ≠ rb ∧ (Value.slice lA n lc).ownBlock ≠ some k := by
  obtain ⟨cur, hc⟩ := row_blk h.quo hk
  obtain ⟨D, h1, _⟩ := h.tal
  obtain ⟨es, ck, ht⟩ := map_blk h1
  obtain ⟨es2, ck2, hr⟩ := map_blk h.rat
  refine ⟨fun e => ?_, fun e => ?_, fun e => ?_, fun e => ?_⟩
  · rw [e, h.box] at hc; cases hc
  · rw [e, ht] at hc; cases hc
  · rw [e, hr] at hc; cases hc
  · obtain ⟨cur2, hc2⟩ := row_blk h.lev e
    rw [hc2] at hc; cases hc
theorem GP.lsep (h : GP B W p n qc lc rb tb m tn qA lA RD Q RT g V TL) {k : Nat} (hk : (Value.slice lA n lc).ownBlock = some k) : k ≠ p ∧ k ≠ tb ∧ k ≠ rb ∧ (Value.slice qA n qc).ownBlock ≠ some k := by
  obtain ⟨cur, hc⟩ := row_blk h.lev hk
  obtain ⟨D, h1, _⟩ := h.tal
  obtain ⟨es, ck, ht⟩ := map_blk h1
  obtain ⟨es2, ck2, hr⟩ := map_blk h.rat
  refine ⟨fun e => ?_, fun e => ?_, fun e => ?_, fun e => ?_⟩
  · rw [e, h.box] at hc; cases hc
  · rw [e, ht] at hc; cases hc
  · rw [e, hr] at hc; cases hc
  · exact (h.qsep e).2.2.2 hk
theorem GP.msep (h : GP B W p n qc lc rb tb m tn qA lA RD Q RT g V TL) : rb ≠ p ∧ tb ≠ p := by
  obtain ⟨D, h1, _⟩ := h.tal
  obtain ⟨es, ck, ht⟩ := map_blk h1
  obtain ⟨es2, ck2, hr⟩ := map_blk h.rat
  refine ⟨fun e => ?_, fun e => ?_⟩
  · rw [e, h.box] at hr; cases hr
  · rw [e, h.box] at ht; cases ht
theorem GP.asked (h : GP B W p n qc lc rb tb m tn qA lA RD Q RT g V TL) (a : Asked W W' B p n qc lc rb tb tn qA lA t V' TL') : GP B W' p n qc lc rb tb m (tn + 1) qA lA RD Q RT t V' TL' := by
  have hr : W'.heap[rb]? = W.heap[rb]? := by
    obtain ⟨es, ck, hh⟩ := map_blk h.rat
    rw [hh]
    exact a.keep.keep rb _ hh (fun e => by
      rcases e with e | e | e
      · exact h.msep.1 e
      · exact h.ne e
      · exact (h.lsep e).2.2.1 rfl)
  exact ⟨a.box, own_stay h.quo (fun k o e ho => a.keep.keep k o ho (fun e2 => by
      rcases e2 with e2 | e2 | e2
      · exact (h.qsep e).1 e2
      · exact (h.qsep e).2.1 e2
      · exact (h.qsep e).2.2.2 e2)), a.lev, ownsMap_block h.rat hr, h.rds, a.tal, h.pl, h.rl, h.tl, h.ne⟩
end
/-- What Ask answers (where it answers): why, name, weight; levels; tallies. -/
def askO (Q : List Qt) (RT : List RtK) (V : List Lv) (TL : List Tl) (id key : ByteArray) (t : Int) : (Int × ByteArray × Int) × List Lv × List Tl :=
  if hasR key RT = true ∧ sampledB id (getR key RT) = false then ((1, ⟨#[]⟩, 0), V, incT (key, 1, ⟨#[]⟩) TL)
  else match limF Q V key t with
    | some i => ((2, Q[i].name, 0), V, incT (key, 2, Q[i].name) TL)
    | none => ((0, ⟨#[]⟩, if hasR key RT = true then 1000000000000 / getR key RT else 1000000), limV Q V t (fitIx Q key Q.length), incT (key, 0, ⟨#[]⟩) TL)
def askV (o : Int × ByteArray × Int) : Value := .tuple #[.int .i64 o.1, .string o.2.1, .int .i64 o.2.2, .int .i64 0]
theorem Ask_gp {B : Nat} {w : World} {p n qc lc rb tb m tn : Nat} {qA lA : Option Addr} {RD : DataW Unit} {Q : List Qt} {RT : List RtK} {g : Int} {V : List Lv} {TL : List Tl} (h : GP B w p n qc lc rb tb m tn qA lA RD Q RT g V TL) (t : Int) (id key : ByteArray)
    (hQ : Q.length = n) (hV : V.length = n) (hok : LvsOk Q V) (hn5 : n ≤ 50) (hBz : B ≤ w.heap.size) (hg : ∀ x ∈ V, x.t ≤ g) (hnm : ∀ q ∈ Q, q.name.size ≤ maxLen)
    (hRT : 0 ≤ getR key RT ∧ getR key RT ≤ 1000000) (htn : tn < 1000000) (hTc : ∀ x, 0 ≤ getT x TL ∧ getT x TL ≤ 1000000) (hid : id.size ≤ 200) (hke : keyErr key = 0) (hkl : key.size ≤ maxLen) (hE : momE t g = 0) :
    Calls Tryd.prog 11 #[.pointer (some ⟨p, 0, none⟩), .string id, .string key, .int .i64 t] w fun e w' => e = .returned (askV (askO Q RT V TL id key t).1) ∧
      GP B w' p n qc lc rb tb m (tn + 1) qA lA RD Q RT t (askO Q RT V TL id key t).2.1 (askO Q RT V TL id key t).2.2 ∧ Below B w w' := by
  obtain ⟨TD, hT, hTD⟩ := h.tal
  have hsl : Sl w w.heap.size Qt.cs 5 qA n Q := by
    obtain ⟨A, c, e, hs, _⟩ := sl_of_own (f := Qt.cs) (fun _ => rfl) hQ h.quo
    cases e
    exact hs
  have hbl : ∀ b o, qA = some ⟨b, o, none⟩ → (Value.slice qA n qc).ownBlock = some b := fun b o e => by rw [e]; rfl
  have hqp : 0 < n → ∀ b o, qA = some ⟨b, o, none⟩ → b ≠ p ∧ b ≠ tb := fun _ b o e => ⟨(h.qsep (hbl b o e)).1, (h.qsep (hbl b o e)).2.1⟩
  have hpl : ∀ k, (Value.slice lA n lc).ownBlock = some k → k ≠ p ∧ (0 < n → ∀ b o, qA = some ⟨b, o, none⟩ → b ≠ k) := fun k e => ⟨(h.lsep e).1, fun _ b o e2 e3 => (h.qsep (hbl b o e2)).2.2.2 (by rw [e3]; exact e)⟩
  by_cases c1 : hasR key RT = true ∧ sampledB id (getR key RT) = false
  · have e : askO Q RT V TL id key t = ((1, ⟨#[]⟩, 0), V, incT (key, 1, ⟨#[]⟩) TL) := by rw [askO, if_pos c1]
    rw [e]
    refine (Ask_smp p n qc lc B rb m tb tn qA lA g t id key Q V RT TL RD TD w hQ hV h.box hsl hqp h.lev hpl hok hn5 hBz h.pl h.tl hg hnm h.rat h.rds hRT hT hTD htn hTc hid hke hkl hE c1.1 c1.2).mono ?_
    rintro e w' ⟨rfl, ha⟩
    exact ⟨rfl, h.asked ha, ha.keep.be⟩
  · have hpass : hasR key RT = true → sampledB id (getR key RT) = true := fun h1 => by
      cases h2 : sampledB id (getR key RT) with
      | true => rfl
      | false => exact absurd ⟨h1, h2⟩ c1
    cases hl : limF Q V key t with
    | some i =>
      have e : askO Q RT V TL id key t = ((2, Q[i].name, 0), V, incT (key, 2, Q[i].name) TL) := by rw [askO, if_neg c1, hl]
      rw [e]
      refine (Ask_lim p n qc lc B rb m tb tn qA lA g t id key Q V RT TL RD TD w hQ hV h.box hsl hqp h.lev hpl hok hn5 hBz h.pl h.tl hg hnm h.rat h.rds hRT hT hTD htn hTc hid hke hkl hE hpass i.val i.isLt hl).mono ?_
      rintro e w' ⟨rfl, ha⟩
      exact ⟨rfl, h.asked ha, ha.keep.be⟩
    | none =>
      have e : askO Q RT V TL id key t = ((0, ⟨#[]⟩, if hasR key RT = true then 1000000000000 / getR key RT else 1000000), limV Q V t (fitIx Q key Q.length), incT (key, 0, ⟨#[]⟩) TL) := by rw [askO, if_neg c1, hl]
      rw [e]
      refine (Ask_kept p n qc lc B rb m tb tn qA lA g t id key Q V RT TL RD TD w hQ hV h.box hsl hqp h.lev hpl hok hn5 hBz h.pl h.tl hg hnm h.rat h.rds hRT hT hTD htn hTc hid hke hkl hE hpass hl).mono ?_
      rintro e w' ⟨rfl, ha⟩
      exact ⟨rfl, h.asked ha, ha.keep.be⟩
end Go.Proofs.YtkoijhecahebgaaDoor
