/- Walk of shares. -/
import Derived.Test.YtkjpojaanocfjaaGreatDoorStReP
import Derived.Test.YtkjpojaanocfjaaGreatDoorRegChain
import Derived.BigQuiet
namespace Go.Proofs.YtkjpojaanocfjaaGreatDoor
open Go.RowKit
set_option linter.unusedVariables false
set_option linter.unusedSimpArgs false
theorem info_frame : (Tryz.prog.info? 43).map (fun i => (i.zero, i.size, i.bytes)) = some (some (.agg #[.string ByteArray.empty, .string ByteArray.empty, .string ByteArray.empty, .int .i64 0, .int .i64 0, .bool false]), 6, 72) := by kernel_rfl
theorem info_fault : (Tryz.prog.info? 40).map (fun i => (i.zero, i.size, i.bytes)) = some (some (.agg #[.string ByteArray.empty, .string ByteArray.empty, .slice none 0 0]), 3, 56) := by kernel_rfl
/-- The last fault's frames. -/
def lastT (l : List FaultT) : Option (List Frame) := l.getLast?.map FaultT.frs
theorem shrN_none (fs : List Frame) (first line : Nat) (more : Int) : shrN none fs first line more = (if 0 ≤ more then line else 0, fs) := by unfold shrN; split <;> rfl
theorem one_frames (l : List Frame) : ∀ u ∈ l.flatMap Frame.cs, u.oneCell' = true := by
  intro u hu
  obtain ⟨x, _, hx⟩ := List.mem_flatMap.1 hu
  simp [Frame.cs] at hx
  rcases hx with rfl | rfl | rfl | rfl | rfl | rfl <;> rfl
theorem FBox.sl {F N c : Nat} {K T : ByteArray} {A : Option Addr} {fs : List Frame} {w : World} (h : FBox F K T (.slice A N c) fs w) : Sl w w.heap.size Frame.cs 6 A fs.length fs := by
  obtain ⟨A', c', e, hsl, _⟩ := sl_of_own Frame.cs_len rfl h.row
  simp at e
  obtain ⟨rfl, rfl, rfl⟩ := e
  exact hsl
theorem FBox.draw {F : Nat} {K T : ByteArray} {v : Value} {fs : List Frame} {w : World} (h : FBox F K T v fs w) : FBox F K T v fs w.drew := h.below (below_drewN (Below.refl _ _) 1)
set_option maxRecDepth 100000 in
set_option maxHeartbeats 8000000 in
theorem shares_any {F : Nat} {A : Option Addr} {n c : Nat} {l : List FaultT} {K T : ByteArray} {v : Value} {fs : List Frame} {w : World} (first line : Nat) (more : Int)
    (hn : n ≤ 1000001) (hsl : Sl w F FaultT.cs 3 A n l) (hlast : ∀ x, l.getLast? = some x → Sl w F Frame.cs 6 x.A x.n x.frs ∧ x.n ≤ 1000000000 ∧ x.n ≤ x.cap ∧ FramesFit x.frs) (hf : FBox F K T v fs w) (hfl : fs.length ≤ 1000000000) (hfi : first ≤ 1000000000) (hli : line ≤ 1000000000) :
    Calls Tryz.prog 42 #[.slice A n c, .pointer (some ⟨F, 0, none⟩), .int .i64 first, .int .i64 more, .int .i64 line] w fun e w' => e = .returned (.int .i64 ((shrN (lastT l) fs first line more).1 : Nat)) ∧ (∃ v', FBox F K T v' (shrN (lastT l) fs first line more).2 w') ∧ Below F w w' := by
  have HL := hsl.len
  have HF := hide hf
  obtain ⟨Af, cf, rfl⟩ := own_sl hf.row
  by_cases h0 : 0 ≤ more
  · by_cases hn0 : n = 0
    · subst hn0
      have hl0 : l = [] := List.eq_nil_of_length_eq_zero HL
      subst hl0
      have E := hide (show shrN (lastT []) fs first line more = (line, fs) by unfold lastT; rw [show ([] : List FaultT).getLast?.map FaultT.frs = none from rfl, shrN_none, if_pos h0])
      go_enter Tryz.func42, Tryz.ntmps42
      go_wp2_with (fail)
      go_ret
      exact ⟨by rw [E.out] <;> rfl, ⟨_, by rw [E.out]; exact HF.out⟩, Below.refl _ _⟩
    · obtain ⟨m, rfl⟩ : ∃ m, n = m + 1 := ⟨n - 1, by omega⟩
      obtain ⟨g, o, x, rfl, hg, hx, hc⟩ := hsl.at_ (k := m) (by omega)
      have hxl : l.getLast? = some x := by rw [List.getLast?_eq_getElem?, HL]; simpa using hx
      obtain ⟨hxs, hxn, hxc, hxf⟩ := hlast x hxl
      have hLT : lastT l = some x.frs := by unfold lastT; rw [hxl]; rfl
      have c2 : w.cell? ⟨g, o + m * 3 + 2, none⟩ = some (.slice x.A x.n x.cap) := hc 2 _ rfl
      have hxL := hxs.len
      obtain ⟨q, rfl⟩ : ∃ q : Nat, more = q := ⟨more.toNat, by omega⟩
      by_cases h2 : q < 2
      · have h2' : (q : Int) < 2 := by omega
        have E := hide (show shrN (lastT l) fs first line q = (line, fs) by rw [hLT]; unfold shrN; rw [if_pos h0]; simp only [if_pos h2'])
        clear hc hx hxl hLT hlast hxs hsl
        go_enter Tryz.func42, Tryz.ntmps42
        go_wp2_with (fail)
        go_ret
        exact ⟨by rw [E.out] <;> rfl, ⟨_, by rw [E.out]; exact HF.out⟩, Below.refl _ _⟩
      · have h2' : ¬ (q : Int) < 2 := by omega
        by_cases h3 : x.n < q
        · have h3' : (x.n : Int) < q := by omega
          have h3'' : (x.frs.length : Int) < q := by omega
          have E := hide (show shrN (lastT l) fs first line q = (line, fs) by rw [hLT]; unfold shrN; rw [if_pos h0]; simp only [if_neg h2', if_pos h3''])
          clear hc hx hxl hLT hlast hxs hsl h3''
          go_enter Tryz.func42, Tryz.ntmps42
          go_wp2_with (fail)
          go_ret
          exact ⟨by rw [E.out] <;> rfl, ⟨_, by rw [E.out]; exact HF.out⟩, Below.refl _ _⟩
        · have h3' : ¬ (x.n : Int) < q := by omega
          have h3'' : ¬ (x.frs.length : Int) < q := by omega
          have E0 := hide (show shrN (lastT l) fs first line q = (if (sharedN x.frs (fs ++ x.frs.drop (x.frs.length - q)) : Int) = q then 0 else line, fs ++ x.frs.drop (x.frs.length - q)) by rw [hLT]; unfold shrN; rw [if_pos h0]; simp only [if_neg h2', if_neg h3'']; simp)
          obtain ⟨XA, xg, xo, hxA, hxg⟩ : ∃ XA xg xo, x.A = some XA ∧ XA = ⟨xg, xo, none⟩ := by
            obtain ⟨b, o', e, _⟩ := hxs.cells (by omega)
            exact ⟨_, _, _, e, rfl⟩
          subst hxg
          rw [hxA] at c2 hxs
          have hcap : ¬ (x.cap = x.n - q) := by omega
          have hq1 : q ≤ x.n := by omega
          have f2 := block_free hf.box 2
          have x2 : w.cell? ⟨F, 2, none⟩ = some (.slice Af fs.length cf) := (block_cell hf.box 2).trans rfl
          clear hc hx hxl hLT hlast hsl h3'' hxA
          obtain ⟨r, hr⟩ : ∃ r, x.n = r + q := ⟨x.n - q, by omega⟩
          obtain ⟨xc, hxc'⟩ : ∃ xc, x.cap = xc := ⟨_, rfl⟩
          rw [hr, hxc'] at c2
          rw [hr] at hxs hxn hxc hxL hq1 hcap h3 h3'
          rw [hxc'] at hxc hcap
          have hcap' : ¬ xc = r := by omega
          have hrc : r ≤ xc := by omega
          clear hr hxc'
          have HXS := hide hxs
          clear hxs
          have hq0 : 2 ≤ q := by omega
          have hrq : x.frs.length - q = r := by omega
          rw [hrq] at E0
          have hes := HXS.out.drop (i := r) (by omega)
          rw [show r + q - r = q by omega] at hes
          obtain ⟨es, hes'⟩ : ∃ es, x.frs.drop r = es := ⟨_, rfl⟩
          rw [hes'] at hes E0
          have heL := hes.len
          have heF : FramesFit es := fun y hy => hxf y (List.mem_of_mem_drop (hes' ▸ hy))
          have HES := hide hes
          obtain ⟨N, hN⟩ : ∃ N, sharedN x.frs (fs ++ es) = N := ⟨_, rfl⟩
          rw [hN] at E0
          clear hes hes' hrq
          have hwr : IntKind.i64.wrap (r : Int) = (r : Int) := IntWalk.i64_in _ (by omega)
          have h5 : (r : Int) ≤ (r : Int) + (q : Int) := by omega
          obtain ⟨i0, hi0, iz0, iz1, iz2⟩ := info_parts info_frame
          go_enter Tryz.func42, Tryz.ntmps42
          go_wp2_with (fail)
          refine wp_region_chain (fun W => W.cell? ⟨F, 2, none⟩ = some (.slice Af fs.length cf)) 11 (by as_aux_lemma => kernel_rfl) (N := 15) (by as_aux_lemma => kernel_rfl) ?_; intro hsh
          have HS : w.drew.cell? ⟨F, 2, none⟩ = some (.slice Af fs.length cf) := x2
          refine wpAnyC_take0 (i := 0) (k := 11) (v := ?_) (d := some 35) rfl (by rfl) (by as_aux_lemma => kernel_rfl) (by as_aux_lemma => kernel_rfl) (by as_aux_lemma => kernel_rfl) hsh (by decide) (by intro _ _ _ h; exact h) (by assumption) (Or.inl ⟨by rfl, ?hy⟩) ?_; (case hy => (intro W _; go_simp; (try with_reducible rfl))); clear hsh; intro hsh
          refine wpAnyC_take0 (i := 1) (k := 11) (v := ?_) (d := some 36) rfl (by rfl) (by as_aux_lemma => kernel_rfl) (by as_aux_lemma => kernel_rfl) (by as_aux_lemma => kernel_rfl) hsh (by decide) (by intro _ _ _ h; exact h) (by assumption) (Or.inl ⟨by rfl, ?hy⟩) ?_; (case hy => (intro W _; go_simp; (try with_reducible rfl))); clear hsh; intro hsh
          refine wpAnyC_take0 (i := 2) (k := 11) (v := ?_) (d := some 37) rfl (by rfl) (by as_aux_lemma => kernel_rfl) (by as_aux_lemma => kernel_rfl) (by as_aux_lemma => kernel_rfl) hsh (by decide) (by intro _ _ _ h; exact h) (by assumption) (Or.inl ⟨by rfl, ?hy⟩) ?_; (case hy => (intro W _; go_simp; (try with_reducible rfl))); clear hsh; intro hsh
          refine wpAnyC_take0 (i := 3) (k := 11) (v := ?_) (d := some 38) rfl (by rfl) (by as_aux_lemma => kernel_rfl) (by as_aux_lemma => kernel_rfl) (by as_aux_lemma => kernel_rfl) hsh (by decide) (by intro _ _ _ h; exact h) (by assumption) (Or.inl ⟨by rfl, ?hy⟩) ?_; (case hy => (intro W _; go_simp; (try with_reducible rfl))); clear hsh; intro hsh
          refine wpAnyC_take (i := 4) (k := 11) (f := 40) (v := ?_) (d := some 39) rfl (by rfl) (by as_aux_lemma => kernel_rfl) (by as_aux_lemma => kernel_rfl) (by as_aux_lemma => kernel_rfl) hsh (by decide) (by as_aux_lemma => kernel_rfl) (by intro _ _ _ h; exact h) (by assumption) (Or.inl ⟨by rfl, ?hy⟩) ?_; (case hy => (rintro W y0; go_simp; (try with_reducible rfl))); clear hsh; intro hsh
          refine wpAnyC_take0 (i := 5) (k := 11) (v := ?_) (d := some 40) rfl (by rfl) (by as_aux_lemma => kernel_rfl) (by as_aux_lemma => kernel_rfl) (by as_aux_lemma => kernel_rfl) hsh (by decide) (by intro _ _ _ h; exact h) (by assumption) (Or.inl ⟨by rfl, ?hy⟩) ?_; (case hy => (intro W _; go_simp; (try with_reducible rfl))); clear hsh; intro hsh
          refine wpAnyC_take0 (i := 6) (k := 11) (v := ?_) (d := some 41) rfl (by rfl) (by as_aux_lemma => kernel_rfl) (by as_aux_lemma => kernel_rfl) (by as_aux_lemma => kernel_rfl) hsh (by decide) (by intro _ _ _ h; exact h) (by assumption) (Or.inl ⟨by rfl, ?hy⟩) ?_; (case hy => (intro W _; go_simp; (try with_reducible rfl))); clear hsh; intro hsh
          refine wpAnyC_take0 (i := 7) (k := 11) (v := ?_) (d := some 42) rfl (by rfl) (by as_aux_lemma => kernel_rfl) (by as_aux_lemma => kernel_rfl) (by as_aux_lemma => kernel_rfl) hsh (by decide) (by intro _ _ _ h; exact h) (by assumption) (Or.inl ⟨by rfl, ?hy⟩) ?_; (case hy => (intro W _; go_simp; (try with_reducible rfl))); clear hsh; intro hsh
          refine wpAnyC_take0 (i := 8) (k := 11) (v := ?_) (d := some 43) rfl (by rfl) (by as_aux_lemma => kernel_rfl) (by as_aux_lemma => kernel_rfl) (by as_aux_lemma => kernel_rfl) hsh (by decide) (by intro _ _ _ h; exact h) (by assumption) (Or.inl ⟨by rfl, ?hy⟩) ?_; (case hy => (intro W _; go_simp; (try with_reducible rfl))); clear hsh; intro hsh
          refine wpAnyC_take0 (i := 9) (k := 11) (v := ?_) (d := some 44) rfl (by rfl) (by as_aux_lemma => kernel_rfl) (by as_aux_lemma => kernel_rfl) (by as_aux_lemma => kernel_rfl) hsh (by decide) (by intro _ _ _ h; exact h) (by assumption) (Or.inl ⟨by rfl, ?hy⟩) ?_; (case hy => (intro W _; go_simp; (try with_reducible rfl))); clear hsh; intro hsh
          refine wpAnyC_take0 (i := 10) (k := 11) (v := ?_) (d := some 45) rfl (by rfl) (by as_aux_lemma => kernel_rfl) (by as_aux_lemma => kernel_rfl) (by as_aux_lemma => kernel_rfl) hsh (by decide) (by intro _ _ _ h; exact h) (by assumption) (Or.inl ⟨by rfl, ?hy⟩) ?_; (case hy => (intro W _; go_simp; (try with_reducible rfl))); clear hsh; intro hsh
          refine wpAnyC_tail (by as_aux_lemma => kernel_rfl) (by simp) (by as_aux_lemma => kernel_rfl) ?_; simp only [List.drop_succ_cons, List.drop_zero]; clear hsh
          clear HS
          go_simp
          refine wpList_append_own _ (by rfl) (.tmp 39) (.tmp 45) 38 (by rfl) (F + 1) 43 i0 (.agg #[.string ByteArray.empty, .string ByteArray.empty, .string ByteArray.empty, .int .i64 0, .int .i64 0, .bool false]) 6 72 Tryz.underlying38 hi0 iz0 iz1 iz2 rfl (by decide) (.slice Af fs.length cf) fs.length (fs.flatMap Frame.cs) (by rfl) HF.out.draw.row ⟨xg, xo + r * 6, none⟩ q (xc - r) (es.flatMap Frame.cs) (by rfl) (by rw [flatMap_len Frame.cs_len, heL]) ((HES.out.below (below_drewN (Below.refl F w) 1)).news Frame.cs_len) (one_frames es) (by unfold maxLen; omega) (by omega) HF.out.lt ?_
          intro v1 w1 hown1 hg1 _
          obtain ⟨a1, c1, rfl⟩ := own_sl hown1
          have hadd := HF.out.draw.add (es := es) hg1 (by rw [heL]; exact hown1) heF
          have hkb := (HF.out.draw.keepB hg1 (Nat.le_refl F) (.slice a1 (fs.length + q) c1)).be
          have f1 := block_free hadd.1 2
          have y1 : w1.cell? ⟨F, 2, none⟩ = some (.slice Af fs.length cf) := (block_cell hadd.1 2).trans rfl
          have HF2 := hide hadd.2
          obtain ⟨w2, hw2⟩ : ∃ w2, w1.setCell ⟨F, 2, none⟩ (.slice a1 (fs.length + q) c1) = w2 := ⟨_, rfl⟩
          rw [hw2] at HF2 hkb
          have HB2 := hide (show Below F w w2 from (below_drewN (Below.refl F w) 1).trans hkb)
          have y2 : w2.cell? ⟨F, 2, none⟩ = some (.slice a1 (fs.length + q) c1) := (block_cell HF2.out.box 2).trans rfl
          have HSN := hide (fun c' => Shared_any (some ⟨xg, xo, none⟩) (r + q) c' a1 (fs ++ es).length c1 x.frs (fs ++ es) w2 (by unfold maxLen; omega) (by rw [List.length_append, heL]; unfold maxLen; omega) ((HXS.out.below HB2.out).more (Nat.le_of_lt HF2.out.lt)) HF2.out.sl)
          simp only [hN, List.length_append, heL] at HSN
          clear hown1 hg1 hadd hkb hN
          by_cases hsh : N = q
          · have E := hide (show shrN (lastT l) fs first line q = (0, fs ++ es) by rw [E0.out, if_pos (by omega)])
            subst hsh
            go_simp
            go_wp2_with (go_at_call 65; refine (HSN.out _).mono ?_; rintro e w3 ⟨rfl, hw3⟩; have HB3 := hide hw3; clear hw3)
            go_ret
            exact ⟨by rw [E.out] <;> rfl, ⟨_, by rw [E.out]; exact HF2.out.below HB3.out⟩, HB2.out.trans (HB3.out.mono (Nat.le_of_lt HF2.out.lt))⟩
          · have E := hide (show shrN (lastT l) fs first line q = (line, fs ++ es) by rw [E0.out, if_neg (by omega)])
            have hsh' : ¬ (N : Int) = (q : Int) := by omega
            clear E0
            go_simp
            go_wp2_with (go_at_call 65; refine (HSN.out _).mono ?_; rintro e w3 ⟨rfl, hw3⟩; have HB3 := hide hw3; clear hw3)
            go_ret
            exact ⟨by rw [E.out] <;> rfl, ⟨_, by rw [E.out]; exact HF2.out.below HB3.out⟩, HB2.out.trans (HB3.out.mono (Nat.le_of_lt HF2.out.lt))⟩
  · by_cases hn0 : n = 0
    · subst hn0
      have hl0 : l = [] := List.eq_nil_of_length_eq_zero HL
      subst hl0
      have E := hide (show shrN (lastT []) fs first line more = (0, fs) by unfold lastT; rw [show ([] : List FaultT).getLast?.map FaultT.frs = none from rfl, shrN_none, if_neg h0])
      go_enter Tryz.func42, Tryz.ntmps42
      go_wp2_with (fail)
      go_ret
      exact ⟨by rw [E.out] <;> rfl, ⟨_, by rw [E.out]; exact HF.out⟩, Below.refl _ _⟩
    · obtain ⟨m, rfl⟩ : ∃ m, n = m + 1 := ⟨n - 1, by omega⟩
      obtain ⟨g, o, x, rfl, hg, hx, hc⟩ := hsl.at_ (k := m) (by omega)
      have hxl : l.getLast? = some x := by rw [List.getLast?_eq_getElem?, HL]; simpa using hx
      obtain ⟨hxs, hxn, hxc, hxf⟩ := hlast x hxl
      have hLT : lastT l = some x.frs := by unfold lastT; rw [hxl]; rfl
      have c2 : w.cell? ⟨g, o + m * 3 + 2, none⟩ = some (.slice x.A x.n x.cap) := hc 2 _ rfl
      have x2 : w.cell? ⟨F, 2, none⟩ = some (.slice Af fs.length cf) := (block_cell hf.box 2).trans rfl
      obtain ⟨N, hN⟩ : ∃ N, sharedN x.frs fs = N := ⟨_, rfl⟩
      have hNle : N ≤ fs.length := hN ▸ sharedN_le x.frs fs
      have E0 := hide (show shrN (lastT l) fs first line more = (if 2 ≤ N then first + fs.length - N else 0, fs) by rw [hLT]; unfold shrN; rw [if_neg h0]; simp only [hN])
      have HSN := hide (Shared_any x.A x.n x.cap Af fs.length cf x.frs fs w.drew (by unfold maxLen; omega) (by unfold maxLen; omega) ((hxs.below (below_drewN (Below.refl F w) 1)).more (Nat.le_of_lt hf.lt)) hf.draw.sl)
      rw [hN] at HSN
      have hwm : IntKind.i64.wrap (m : Int) = (m : Int) := IntWalk.i64_in _ (by omega)
      have hlm : (m : Int) < (m : Int) + 1 := by omega
      have HC := hide hc
      clear hc hx hxl hLT hlast hsl hxs hN
      go_enter Tryz.func42, Tryz.ntmps42
      go_wp2_with (fail)
      refine wp_region_chain (fun W => W.cell? ⟨g, o + m * 3 + 2, none⟩ = some (.slice x.A x.n x.cap) ∧ W.cell? ⟨F, 2, none⟩ = some (.slice Af fs.length cf)) 12 (by as_aux_lemma => kernel_rfl) (N := 13) (by as_aux_lemma => kernel_rfl) ?_; intro hsh
      have HS : w.drew.cell? ⟨g, o + m * 3 + 2, none⟩ = some (.slice x.A x.n x.cap) ∧ w.drew.cell? ⟨F, 2, none⟩ = some (.slice Af fs.length cf) := ⟨c2, x2⟩
      refine wpAnyC_take0 (i := 0) (k := 12) (v := ?_) (d := some 61) rfl (by rfl) (by as_aux_lemma => kernel_rfl) (by as_aux_lemma => kernel_rfl) (by as_aux_lemma => kernel_rfl) hsh (by decide) (by intro _ _ _ h; exact h) (by assumption) (Or.inl ⟨by rfl, ?hy⟩) ?_; (case hy => (intro W _; go_simp; (try with_reducible rfl))); clear hsh; intro hsh
      refine wpAnyC_take0 (i := 1) (k := 12) (v := ?_) (d := some 62) rfl (by rfl) (by as_aux_lemma => kernel_rfl) (by as_aux_lemma => kernel_rfl) (by as_aux_lemma => kernel_rfl) hsh (by decide) (by intro _ _ _ h; exact h) (by assumption) (Or.inl ⟨by rfl, ?hy⟩) ?_; (case hy => (intro W _; go_simp; (try with_reducible rfl))); clear hsh; intro hsh
      refine wpAnyC_take0 (i := 2) (k := 12) (v := ?_) (d := some 63) rfl (by rfl) (by as_aux_lemma => kernel_rfl) (by as_aux_lemma => kernel_rfl) (by as_aux_lemma => kernel_rfl) hsh (by decide) (by intro _ _ _ h; exact h) (by assumption) (Or.inl ⟨by rfl, ?hy⟩) ?_; (case hy => (intro W _; go_simp; (try with_reducible rfl))); clear hsh; intro hsh
      refine wpAnyC_take0 (i := 3) (k := 12) (v := ?_) (d := some 64) rfl (by rfl) (by as_aux_lemma => kernel_rfl) (by as_aux_lemma => kernel_rfl) (by as_aux_lemma => kernel_rfl) hsh (by decide) (by intro _ _ _ h; exact h) (by assumption) (Or.inl ⟨by rfl, ?hy⟩) ?_; (case hy => (intro W _; go_simp; (try with_reducible rfl))); clear hsh; intro hsh
      refine wpAnyC_take0 (i := 4) (k := 12) (v := ?_) (d := some 65) rfl (by rfl) (by as_aux_lemma => kernel_rfl) (by as_aux_lemma => kernel_rfl) (by as_aux_lemma => kernel_rfl) hsh (by decide) (by intro _ _ _ h; exact h) (by assumption) (Or.inl ⟨by rfl, ?hy⟩) ?_; (case hy => (intro W _; go_simp; (try with_reducible rfl))); clear hsh; intro hsh
      refine wpAnyC_take0 (i := 5) (k := 12) (v := ?_) (d := some 66) rfl (by rfl) (by as_aux_lemma => kernel_rfl) (by as_aux_lemma => kernel_rfl) (by as_aux_lemma => kernel_rfl) hsh (by decide) (by intro _ _ _ h; exact h) (by assumption) (Or.inl ⟨by rfl, ?hy⟩) ?_; (case hy => (intro W _; go_simp; (try with_reducible rfl))); clear hsh; intro hsh
      refine wpAnyC_take (i := 6) (k := 12) (f := 40) (v := ?_) (d := some 67) rfl (by rfl) (by as_aux_lemma => kernel_rfl) (by as_aux_lemma => kernel_rfl) (by as_aux_lemma => kernel_rfl) hsh (by decide) (by as_aux_lemma => kernel_rfl) (by intro _ _ _ h; exact h) (by assumption) (Or.inl ⟨by rfl, ?hy⟩) ?_; (case hy => (rintro W ⟨y0, y1⟩; go_simp; (try with_reducible rfl))); clear hsh; intro hsh
      refine wpAnyC_take0 (i := 7) (k := 12) (v := ?_) (d := some 68) rfl (by rfl) (by as_aux_lemma => kernel_rfl) (by as_aux_lemma => kernel_rfl) (by as_aux_lemma => kernel_rfl) hsh (by decide) (by intro _ _ _ h; exact h) (by assumption) (Or.inl ⟨by rfl, ?hy⟩) ?_; (case hy => (intro W _; go_simp; (try with_reducible rfl))); clear hsh; intro hsh
      refine wpAnyC_take0 (i := 8) (k := 12) (v := ?_) (d := some 69) rfl (by rfl) (by as_aux_lemma => kernel_rfl) (by as_aux_lemma => kernel_rfl) (by as_aux_lemma => kernel_rfl) hsh (by decide) (by intro _ _ _ h; exact h) (by assumption) (Or.inl ⟨by rfl, ?hy⟩) ?_; (case hy => (intro W _; go_simp; (try with_reducible rfl))); clear hsh; intro hsh
      refine wpAnyC_take0 (i := 9) (k := 12) (v := ?_) (d := some 70) rfl (by rfl) (by as_aux_lemma => kernel_rfl) (by as_aux_lemma => kernel_rfl) (by as_aux_lemma => kernel_rfl) hsh (by decide) (by intro _ _ _ h; exact h) (by assumption) (Or.inl ⟨by rfl, ?hy⟩) ?_; (case hy => (intro W _; go_simp; (try with_reducible rfl))); clear hsh; intro hsh
      refine wpAnyC_take (i := 10) (k := 12) (f := 40) (v := ?_) (d := some 71) rfl (by rfl) (by as_aux_lemma => kernel_rfl) (by as_aux_lemma => kernel_rfl) (by as_aux_lemma => kernel_rfl) hsh (by decide) (by as_aux_lemma => kernel_rfl) (by intro _ _ _ h; exact h) (by assumption) (Or.inl ⟨by rfl, ?hy⟩) ?_; (case hy => (rintro W ⟨y0, y1⟩; go_simp; (try with_reducible rfl))); clear hsh; intro hsh
      refine wpAnyC_ready (rs := [11]) (by as_aux_lemma => kernel_rfl) (by simp) ?_; refine AllC.cons (i := 11) rfl (by as_aux_lemma => kernel_rfl) hsh (fun K hK => ?_) AllC.nil
      go_simp
      go_at_call 65
      refine HSN.out.mono ?_
      rintro e w3 ⟨rfl, hw3⟩
      have HF3 := hide (HF.out.draw.below hw3)
      have HB3 := hide (show Below F w w3 from (below_drewN (Below.refl F w) 1).trans (hw3.mono (Nat.le_of_lt HF.out.draw.lt)))
      have y2 : w3.cell? ⟨F, 2, none⟩ = some (.slice Af fs.length cf) := (block_cell HF3.out.box 2).trans rfl
      try go_simp
      refine hK _ _ (fun _ => ⟨(HB3.out.cell (p := ⟨g, o + m * 3 + 2, none⟩) hg).trans c2, y2⟩) ?_
      clear hK K hsh HS hw3 HSN
      intro hsh
      refine wpAnyC_tail (by as_aux_lemma => kernel_rfl) (by simp) (by as_aux_lemma => kernel_rfl) ?_; simp only [List.drop_succ_cons, List.drop_zero]; clear hsh
      by_cases h2 : 2 ≤ N
      · have h2' : (2 : Int) ≤ (N : Int) := by omega
        have E := hide (show shrN (lastT l) fs first line more = (first + fs.length - N, fs) by rw [E0.out, if_pos h2])
        have HEQ := hide (show ((first + fs.length - N : Nat) : Int) = (first : Int) + (fs.length : Int) - (N : Int) by omega)
        clear E0
        go_simp
        go_wp2_with (fail)
        go_ret
        exact ⟨by rw [E.out, HEQ.out] <;> rfl, ⟨_, by rw [E.out]; exact HF3.out⟩, HB3.out⟩
      · have h2' : ¬ (2 : Int) ≤ (N : Int) := by omega
        have E := hide (show shrN (lastT l) fs first line more = (0, fs) by rw [E0.out, if_neg h2])
        clear E0
        go_simp
        go_wp2_with (fail)
        go_ret
        exact ⟨by rw [E.out] <;> rfl, ⟨_, by rw [E.out]; exact HF3.out⟩, HB3.out⟩
theorem shares_at {F : Nat} {A : Option Addr} {n c : Nat} {l : List FaultT} {K T : ByteArray} {v : Value} {fs : List Frame} {w : World} (first line : Nat) (fI lI more : Int) (hfI : fI = (first : Int)) (hlI : lI = (line : Int))
    (hn : n ≤ 1000001) (hsl : Sl w F FaultT.cs 3 A n l) (hlast : ∀ x, l.getLast? = some x → Sl w F Frame.cs 6 x.A x.n x.frs ∧ x.n ≤ 1000000000 ∧ x.n ≤ x.cap ∧ FramesFit x.frs) (hf : FBox F K T v fs w) (hfl : fs.length ≤ 1000000000) (hfi : first ≤ 1000000000) (hli : line ≤ 1000000000) :
    Calls Tryz.prog 42 #[.slice A n c, .pointer (some ⟨F, 0, none⟩), .int .i64 fI, .int .i64 more, .int .i64 lI] w fun e w' => e = .returned (.int .i64 ((shrN (lastT l) fs first line more).1 : Nat)) ∧ (∃ v', FBox F K T v' (shrN (lastT l) fs first line more).2 w') ∧ Below F w w' := by
  subst hfI hlI
  exact shares_any first line more hn hsl hlast hf hfl hfi hli
end Go.Proofs.YtkjpojaanocfjaaGreatDoor
