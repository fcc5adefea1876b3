/- The print of one fault without frames. -/
import Derived.Test.YtomihkflhhhpjaaDoorGsDg
import Derived.Test.YtomihkflhhhpjaaDoorStFault
import Derived.Test.YtomihkflhhhpjaaDoorGrPlain
import Derived.Test.YtomihkflhhhpjaaDoorOwnMore
import Derived.Test.YtomihkflhhhpjaaDoorRegChain
import Derived.Test.YtomihkflhhhpjaaDoorKeepP
import Derived.Deep.Onto
import Derived.ProofKit
namespace Go.Proofs.YtomihkflhhhpjaaDoor
open Go.RowKit
set_option linter.unusedVariables false
set_option linter.unusedSimpArgs false
theorem CheckRules_nil (w : World) : Calls Tryd.prog 14 #[.slice none 0 0] w fun e w' => e = .returned (.int .i64 0) ∧ w' = w := by
  go_enter Tryd.func14, Tryd.ntmps14
  go_wp2_with (fail)
  go_loopw [11] (fun ti wr => ti = .int .i64 0 ∧ wr = w) (fun ti _ => 0)
  case atStart => exact ⟨rfl, by trivial⟩
  case round =>
    obtain ⟨rfl, rfl⟩ := hrel
    go_wp2_with (fail)
    go_ret
    exact ⟨rfl, rfl⟩
theorem findM_nil (fv : Value) (w : World) : Calls Tryd.prog 103 #[.slice none 0 0, fv] w fun e w' => e = .returned (.int .i64 (-1)) ∧ w' = w := by
  go_enter Tryd.func103, Tryd.ntmps103
  go_wp2_with (fail)
  go_loopw [9] (fun ti wr => ti = .int .i64 0 ∧ wr = w) (fun ti _ => 0)
  case atStart => exact ⟨rfl, by trivial⟩
  case round =>
    obtain ⟨rfl, rfl⟩ := hrel
    go_wp2_with (fail)
    go_ret
    exact ⟨rfl, rfl⟩
/-- A marking of one fault without frames. -/
structure MK (B z : Nat) (fs sp : Value) (c : Nat) (w : World) : Prop where
  box : ∃ g, w.heap[z]? = some (.cells #[fs, .slice (some ⟨g, 0, none⟩) 1 c, sp, .int .i64 0, .string ⟨#[]⟩] 111 (0, 0)) ∧ w.cell? ⟨g, 0, none⟩ = some (.slice none 0 0) ∧ g < w.heap.size
  lo : B ≤ z
theorem MK.below {B z : Nat} {fs sp : Value} {c : Nat} {w w' : World} (h : MK B z fs sp c w) (hb : Below w.heap.size w w') : MK B z fs sp c w' := by
  obtain ⟨⟨g, h1, h2, h3⟩, h4⟩ := h
  exact ⟨⟨g, block_below h1 hb, (hb.cell (p := ⟨g, 0, none⟩) h3).trans h2, Nat.lt_of_lt_of_le h3 hb.size⟩, h4⟩
theorem show_one {B z : Nat} {fs sp : Value} {c : Nat} {w : World} (h : MK B z fs sp c w) :
    Calls Tryd.prog 83 #[.pointer (some ⟨z, 0, none⟩)] w fun e w' => e = .returned (.tuple #[]) ∧ w' = w := by
  obtain ⟨⟨g, h1, h2, h3⟩, h4⟩ := h
  have x1 : w.cell? ⟨z, 1, none⟩ = some (.slice (some ⟨g, 0, none⟩) 1 c) := (block_cell h1 1).trans rfl
  clear h1
  go_enter Tryd.func83, Tryd.ntmps83
  go_wp2_with (fail)
  go_loopw [13] (fun ti wr => ∃ j : Nat, j ≤ 1 ∧ ti = .int .i64 (j : Int) ∧ wr = w) (fun ti _ => 1 - (intOf ti).toNat)
  case atStart => exact ⟨0, Nat.zero_le _, rfl, rfl⟩
  case round =>
    obtain ⟨j, hj, rfl, rfl⟩ := hrel
    obtain rfl | rfl : j = 0 ∨ j = 1 := by omega
    · rename World => wo
      go_wp2_with (go_at_call 103; refine (findM_nil _ _).mono ?_; rintro e w1 ⟨rfl, hh⟩; obtain rfl := hh.symm)
      go_loopw [23] (fun ti wr => ti = .int .i64 0 ∧ wr = wo) (fun ti _ => 0)
      case atStart => exact ⟨rfl, by trivial⟩
      case round =>
        obtain ⟨rfl, rfl⟩ := hrel
        go_wp2_with (fail)
        go_roundw
        case rel => exact ⟨1, Nat.le_refl _, by go_num, by trivial⟩
        case measure => simp [intOf]
    · go_wp2_with (fail)
      refine bodyPost_end (results_none rfl _ _ _) rfl ?_
      exact ⟨rfl, rfl⟩
theorem info_mkd : (Tryd.prog.info? 112).map (fun i => (i.zero, i.size, i.bytes)) = some (some (.slice none 0 0), 1, 24) := by kernel_rfl
theorem info_ints : (Tryd.prog.info? 128).map (fun i => (i.zero, i.size, i.bytes)) = some (some (.slice none 0 0), 1, 24) := by kernel_rfl
theorem gs_parts {i : Option TypeInfo} {z : Option Value} {s b : Nat} (h : i.map (fun i => (i.zero, i.size, i.bytes)) = some (z, s, b)) : ∃ i0, i = some i0 ∧ i0.zero = z ∧ i0.size = s ∧ i0.bytes = b := by
  cases i with
  | none => cases h
  | some i0 =>
    simp at h
    exact ⟨i0, rfl, h⟩
set_option maxRecDepth 100000 in
set_option maxHeartbeats 4000000 in
theorem mark_one (fb fo fc : Nat) (kind text : ByteArray) (w : World) (hk : w.cell? ⟨fb, fo, none⟩ = some (.string kind)) (ht : w.cell? ⟨fb, fo + 1, none⟩ = some (.string text)) (hn : w.cell? ⟨fb, fo + 2, none⟩ = some (.slice none 0 0)) (hfb : fb < w.heap.size) :
    Calls Tryd.prog 66 #[.slice none 0 0, .slice (some ⟨fb, fo, none⟩) 1 fc] w fun e w' => ∃ z sp c, e = .returned (.pointer (some ⟨z, 0, none⟩)) ∧ MK w.heap.size z (.slice (some ⟨fb, fo, none⟩) 1 fc) sp c w' ∧ Below w.heap.size w w' := by
  obtain ⟨i0, hi0, iz0, iz1, iz2⟩ := gs_parts info_mkd
  obtain ⟨i1, hi1, iz3, iz4, iz5⟩ := gs_parts info_ints
  obtain ⟨z, hz⟩ : ∃ z, w.heap.size = z := ⟨_, rfl⟩
  have HZ := hide hz
  have HC := hide (show ∀ V, Below w.heap.size w V → V.cell? ⟨fb, fo, none⟩ = some (.string kind) ∧ V.cell? ⟨fb, fo + 1, none⟩ = some (.string text) ∧ V.cell? ⟨fb, fo + 2, none⟩ = some (.slice none 0 0) from fun V hb => ⟨(hb.cell (p := ⟨fb, fo, none⟩) hfb).trans hk, (hb.cell (p := ⟨fb, fo + 1, none⟩) hfb).trans ht, (hb.cell (p := ⟨fb, fo + 2, none⟩) hfb).trans hn⟩)
  clear hk ht hn
  have hmk : ∀ W, (Instr.makeSlice 128 (.int .i64 0) (.int .i64 0)).run Tryd.prog W = .ok (.slice (some ⟨W.heap.size, 0, none⟩) 0 0) (W.alloc (.cells #[] 3)) := fun W => by kernel_rfl
  go_enter Tryd.func66, Tryd.ntmps66
  go_wp2_with (fail)
  (try rw [hz])
  clear hz
  go_loopw [18] (fun ti wr => ∃ j : Nat, j ≤ 1 ∧ ti = .int .i64 (j : Int) ∧ Below w.heap.size w wr ∧ (j = 0 → wr.heap[z]? = some (.cells #[.slice (some ⟨fb, fo, none⟩) 1 fc, .slice none 0 0, .slice none 0 0, .int .i64 0, .string ⟨#[]⟩] 111 (0, 0))) ∧ (j = 1 → ∃ sp c, MK w.heap.size z (.slice (some ⟨fb, fo, none⟩) 1 fc) sp c wr)) (fun ti _ => 1 - (intOf ti).toNat)
  case atStart => exact ⟨0, Nat.zero_le _, rfl, (Below.refl _ _).alloc (Nat.le_refl _) _, fun _ => by rw [← HZ.out]; exact heap_alloc_new w _, fun h => by cases h⟩
  case round =>
    obtain ⟨j, hj, rfl, hB, h0, h1⟩ := hrel
    obtain ⟨c0, c1, c2⟩ := HC.out wr hB
    have hzr := hB.size
    obtain rfl | rfl : j = 0 ∨ j = 1 := by omega
    · have hb := h0 rfl
      clear h0 h1
      have x1 : wr.cell? ⟨z, 1, none⟩ = some (.slice none 0 0) := (block_cell hb 1).trans rfl
      have x2 : wr.cell? ⟨z, 2, none⟩ = some (.slice none 0 0) := (block_cell hb 2).trans rfl
      have f1 : wr.frozen? ⟨z, 1, none⟩ = false := block_free hb 1
      have f2 : wr.frozen? ⟨z, 2, none⟩ = false := block_free hb 2
      have HB := hide hB
      have HBX := hide hb
      clear hb hB
      rename World => wo
      obtain ⟨wa, hwa⟩ : ∃ wa, wo.alloc (.cells #[.string kind, .string text, .slice none 0 0] 36) = wa := ⟨_, rfl⟩
      have hba : Below wo.heap.size wo wa := hwa ▸ (Below.refl _ _).alloc (Nat.le_refl _) _
      have HFB := hide (show wa.heap[wo.heap.size]? = some (.cells #[.string kind, .string text, .slice none 0 0] 36 (0, 0)) from hwa ▸ heap_alloc_new wo _)
      have HBA := hide (HB.out.trans (hba.mono hzr))
      have HZA := hide (block_below HBX.out hba)
      have y1 : wa.cell? ⟨z, 1, none⟩ = some (.slice none 0 0) := (block_cell HZA.out 1).trans rfl
      have b2 : wa.cell? ⟨wo.heap.size, 2, none⟩ = some (.slice none 0 0) := (block_cell HFB.out 2).trans rfl
      have hza := hba.size
      have hzl := lt_of_block HZA.out
      have hfl := lt_of_block HFB.out
      have hzf : z ≠ wo.heap.size := by have := lt_of_block HBX.out; omega
      have HWA := hide hwa
      clear hba x1 x2 f1 f2 hwa
      go_wp2_with (fail)
      rw [HWA.out]
      go_loopw [8, 25] (fun v ti wr => v = .slice none 0 0 ∧ ti = .int .i64 0 ∧ wr = wa) (fun _ ti _ => 0)
      case atStart => exact ⟨rfl, rfl, by first | rfl | trivial⟩
      case round =>
        obtain ⟨rfl, rfl, hh⟩ := hrel
        obtain rfl := hh.symm
        go_wp2_with (at_builtin; refine wpList_append_own_at _ rfl (.tmp 41) (.tmp 43) 108 rfl w.heap.size 112 i0 (.slice none 0 0) 1 24 Tryd.underlying108 hi0 iz0 iz1 iz2 rfl (by decide) (.slice none 0 0) 0 [] rfl (World.ownsRow_nil _ _ _ _) ⟨wa.heap.size, 0, none⟩ 1 1 [.slice none 0 0] rfl rfl (cell_one_new wa (.slice none 0 0) 112) (by intro u hu; simp at hu; subst hu; rfl) (by unfold maxLen; omega) (by omega) (by simp; omega) ?_; intro v8 w8 hown8 hg8 _ hat8; obtain ⟨A8, c8, rfl⟩ := own_sl hown8; have HO8 := hide hown8; have HZ8 := hide ((hg8.block z (by simp; omega) (fun e => by cases e)).trans (block_below HZA.out ((Below.refl _ _).alloc (Nat.le_refl _) _))); have HF8 := hide ((hg8.block wo.heap.size (by simp; omega) (fun e => by cases e)).trans (block_below HFB.out ((Below.refl _ _).alloc (Nat.le_refl _) _))); have HB8 := hide ((HBA.out.alloc HBA.out.size _).grown hg8 (by have := HBA.out.size; simp; omega) (fun j hj => by cases hj)); have z8 : w8.cell? ⟨z, 1, none⟩ = some (.slice none 0 0) := (block_cell HZ8.out 1).trans rfl; have f8 : w8.frozen? ⟨z, 1, none⟩ = false := block_free HZ8.out 1; clear hown8 hg8 hat8)
        obtain ⟨w9, hw9⟩ : ∃ w9, w8.setCell ⟨z, 1, none⟩ (.slice A8 1 c8) = w9 := ⟨_, rfl⟩
        have HZ9 := hide (show w9.heap[z]? = some (.cells #[.slice (some ⟨fb, fo, none⟩) 1 fc, .slice A8 1 c8, .slice none 0 0, .int .i64 0, .string ⟨#[]⟩] 111 (0, 0)) from hw9 ▸ block_set HZ8.out _)
        have HF9 := hide (show w9.heap[wo.heap.size]? = some (.cells #[.string kind, .string text, .slice none 0 0] 36 (0, 0)) from hw9 ▸ block_set_other HF8.out _ _ hzf.symm)
        have HB9 := hide (show Below w.heap.size w w9 from hw9 ▸ HB8.out.setCell (p := ⟨z, 1, none⟩) (Nat.le_of_eq HZ.out) _)
        have HG9 := hide (show ∃ g, A8 = some ⟨g, 0, none⟩ ∧ w9.cell? ⟨g, 0, none⟩ = some (.slice none 0 0) ∧ g < w9.heap.size ∧ g ≠ z from by
          obtain ⟨g, cap, cur, e, hlo, hg, _⟩ := own_blk HO8.out (by omega)
          simp only [Value.slice.injEq] at e
          obtain ⟨rfl, _, rfl⟩ := e
          have hne : g ≠ z := fun e2 => by
            have h9 := HZ8.out
            rw [← e2, hg] at h9
            cases h9
          have hc := own_cell HO8.out 0 _ rfl
          refine ⟨g, rfl, ?_, ?_, hne⟩
          · rw [← hw9, ← hc]
            simp only [World.cell?, block_set_other hg ⟨z, 1, none⟩ _ hne, hg]
          · rw [← hw9]
            simpa using lt_of_block hg)
        have hz9 := HB9.out.size
        have hfr9 := fun (V : World) (hb : Below w9.heap.size w9 V) => show V.cell? ⟨z, 2, none⟩ = some (.slice none 0 0) ∧ V.cell? ⟨wo.heap.size, 2, none⟩ = some (.slice none 0 0) from ⟨(block_cell (block_below HZ9.out hb) 2).trans rfl, (block_cell (block_below HF9.out hb) 2).trans rfl⟩
        have HSS := hide hfr9
        clear hfr9 z8 f8 y1 b2
        (try rw [hw9])
        refine wp_region_chain (fun V => V.cell? ⟨z, 2, none⟩ = some (.slice none 0 0) ∧ V.cell? ⟨wo.heap.size, 2, none⟩ = some (.slice none 0 0)) 10 (by as_aux_lemma => kernel_rfl) (N := 14) (by as_aux_lemma => kernel_rfl) ?_; intro hsh
        have HS0 := HSS.out w9.drew (below_drewN (Below.refl _ _) 1)
        refine wpAnyC_take0 (i := 0) (k := 10) (v := ?_) (d := some 47) rfl (by rfl) (by as_aux_lemma => kernel_rfl) (by as_aux_lemma => kernel_rfl) (by as_aux_lemma => kernel_rfl) hsh (by decide) (by intro _ _ _ h; exact h) (by assumption) (Or.inl ⟨by rfl, ?hy⟩) ?_; (case hy => (intro W _; go_simp; (try with_reducible rfl))); clear hsh; intro hsh
        refine wpAnyC_take0 (i := 1) (k := 10) (v := ?_) (d := some 48) rfl (by rfl) (by as_aux_lemma => kernel_rfl) (by as_aux_lemma => kernel_rfl) (by as_aux_lemma => kernel_rfl) hsh (by decide) (by intro _ _ _ h; exact h) (by assumption) (Or.inl ⟨by rfl, ?hy⟩) ?_; (case hy => (intro W _; go_simp; (try with_reducible rfl))); clear hsh; intro hsh
        refine wpAnyC_take0 (i := 2) (k := 10) (v := ?_) (d := some 49) rfl (by rfl) (by as_aux_lemma => kernel_rfl) (by as_aux_lemma => kernel_rfl) (by as_aux_lemma => kernel_rfl) hsh (by decide) (by intro _ _ _ h; exact h) (by assumption) (Or.inl ⟨by rfl, ?hy⟩) ?_; (case hy => (intro W _; go_simp; (try with_reducible rfl))); clear hsh; intro hsh
        refine wpAnyC_take0 (i := 3) (k := 10) (v := ?_) (d := some 50) rfl (by rfl) (by as_aux_lemma => kernel_rfl) (by as_aux_lemma => kernel_rfl) (by as_aux_lemma => kernel_rfl) hsh (by decide) (by intro _ _ _ h; exact h) (by assumption) (Or.inl ⟨by rfl, ?hy⟩) ?_; (case hy => (intro W _; go_simp; (try with_reducible rfl))); clear hsh; intro hsh
        refine wpAnyC_take (i := 4) (k := 10) (f := 40) (v := ?_) (d := some 51) rfl (by rfl) (by as_aux_lemma => kernel_rfl) (by as_aux_lemma => kernel_rfl) (by as_aux_lemma => kernel_rfl) hsh (by decide) (by as_aux_lemma => kernel_rfl) (by intro _ _ _ h; exact h) (by assumption) (Or.inl ⟨by rfl, ?hy⟩) ?_; (case hy => (rintro W ⟨b1, b2⟩; go_simp; (try with_reducible rfl))); clear hsh; intro hsh
        refine wpAnyC_take0 (i := 5) (k := 10) (v := ?_) (d := some 52) rfl (by rfl) (by as_aux_lemma => kernel_rfl) (by as_aux_lemma => kernel_rfl) (by as_aux_lemma => kernel_rfl) hsh (by decide) (by intro _ _ _ h; exact h) (by assumption) (Or.inl ⟨by rfl, ?hy⟩) ?_; (case hy => (intro W _; go_simp; (try with_reducible rfl))); clear hsh; intro hsh
        refine wpAnyC_take (i := 6) (k := 10) (f := 40) (v := ?_) (d := some 53) rfl (by rfl) (by as_aux_lemma => kernel_rfl) (by as_aux_lemma => kernel_rfl) (by as_aux_lemma => kernel_rfl) hsh (by decide) (by as_aux_lemma => kernel_rfl) (by intro _ _ _ h; exact h) (by assumption) (Or.inl ⟨by rfl, ?hy⟩) ?_; (case hy => (rintro W ⟨b1, b2⟩; go_simp; (try with_reducible rfl))); clear hsh; intro hsh
        refine wpAnyC_take0 (i := 7) (k := 10) (v := ?_) (d := some 54) rfl (by rfl) (by as_aux_lemma => kernel_rfl) (by as_aux_lemma => kernel_rfl) (by as_aux_lemma => kernel_rfl) hsh (by decide) (by intro _ _ _ h; exact h) (by assumption) (Or.inl ⟨by rfl, ?hy⟩) ?_; (case hy => (intro W _; go_simp; (try with_reducible rfl))); clear hsh; intro hsh
        have HSM := HSS.out (w9.alloc (.cells #[] 3)).drew (((Below.refl w9.heap.size w9).alloc (Nat.le_refl _) _).drew)
        have HSN := HSS.out ((w9.alloc (.cells #[] 3)).alloc (.cells #[.slice (some ⟨w9.heap.size, 0, none⟩) 0 0] 128)).drew ((((Below.refl w9.heap.size w9).alloc (Nat.le_refl _) _).alloc (by simp) _).drew)
        refine wpAnyC_ready (rs := [8]) (by as_aux_lemma => kernel_rfl) (by simp) ?_; refine AllC.cons (i := 8) rfl (by as_aux_lemma => kernel_rfl) hsh (fun K hK => ?_) AllC.nil
        go_simp
        refine hK _ _ (fun _ => HSM) ?_
        clear hK K hsh
        intro hsh
        refine wpAnyC_ready (rs := [9]) (by as_aux_lemma => kernel_rfl) (by simp) ?_; refine AllC.cons (i := 9) rfl (by as_aux_lemma => kernel_rfl) hsh (fun K hK => ?_) AllC.nil
        go_simp
        refine hK _ _ (fun _ => HSN) ?_
        clear hK K hsh
        intro hsh
        refine wpAnyC_tail (by as_aux_lemma => kernel_rfl) (by simp) (by as_aux_lemma => kernel_rfl) ?_; simp only [List.drop_succ_cons, List.drop_zero]; clear hsh
        go_simp
        clear HS0 HSM HSN
        go_wp2_with (at_builtin; refine wpList_append_own_at _ rfl (.tmp 51) (.tmp 56) 109 rfl w.heap.size 128 i1 (.slice none 0 0) 1 24 Tryd.underlying109 hi1 iz3 iz4 iz5 rfl (by decide) (.slice none 0 0) 0 [] (by go_simp) (World.ownsRow_nil _ _ _ _) ⟨w9.heap.size + 1, 0, none⟩ 1 1 [.slice (some ⟨w9.heap.size, 0, none⟩) 0 0] (by go_simp) rfl (by have h9 := cell_one_new (w9.alloc (.cells #[] 3)) (.slice (some ⟨w9.heap.size, 0, none⟩) 0 0) 128; simpa using h9) (by intro u hu; simp at hu; subst hu; rfl) (by unfold maxLen; omega) (by omega) (by simp; omega) ?_; intro vb wb hownb hgb _ hatb; obtain ⟨Ab, cb, rfl⟩ := own_sl hownb; have HBW := hide (show Below w9.heap.size w9 wb from ((((Below.refl w9.heap.size w9).alloc (Nat.le_refl _) _).alloc (by simp) _).drew).grown hgb (by simp; omega) (fun j hj => by cases hj)); have HZB := hide (block_below HZ9.out HBW.out); have zb : wb.cell? ⟨z, 2, none⟩ = some (.slice none 0 0) := (block_cell HZB.out 2).trans rfl; have fb2 : wb.frozen? ⟨z, 2, none⟩ = false := block_free HZB.out 2; clear hownb hgb hatb)
        go_roundw
        case rel =>
          obtain ⟨g, hA, hgc, hgl, hgz⟩ := HG9.out
          subst hA
          have hzB : w.heap.size ≤ z := Nat.le_of_eq HZ.out
          refine ⟨1, Nat.le_refl _, by go_num, ?_, (fun h => absurd h (by decide)), fun _ => ⟨_, c8, ⟨⟨g, block_set HZB.out _, ?_, ?_⟩, hzB⟩⟩⟩
          · exact (HB9.out.trans (HBW.out.mono HB9.out.size)).setCell (p := ⟨z, 2, none⟩) hzB _
          · obtain ⟨o, ho, hoc⟩ : ∃ o, w9.heap[g]? = some o ∧ True := ⟨_, Array.getElem?_eq_getElem hgl, trivial⟩
            have h9 : (wb.setCell ⟨z, 2, none⟩ (.slice Ab (0 + 1) cb)).heap[g]? = some o := block_set_other (block_below ho HBW.out) _ _ hgz
            rw [← hgc]
            simp only [World.cell?, h9, ho]
          · have := HBW.out.size
            simp
            omega
        case measure => simp [intOf]
    · obtain ⟨sp, c, hM⟩ := h1 rfl
      have HM := hide hM
      have HB := hide hB
      clear h0 h1 hM hB
      go_wp2_with (fail)
      go_loopw [63] (fun ti w9 => ti = .int .i64 0 ∧ w9 = wr) (fun ti _ => 0)
      case atStart => exact ⟨rfl, by trivial⟩
      case round =>
        obtain ⟨rfl, rfl⟩ := hrel
        go_wp2_with (go_at_call 83; refine (show_one HM.out).mono ?_; rintro e w1 ⟨rfl, hh⟩; obtain rfl := hh.symm)
        refine bodyPost_ret (by simp [results, Tryd.results66, go_sem]; try rfl) rfl ?_
        exact ⟨z, sp, c, rfl, HM.out, HB.out⟩
end Go.Proofs.YtomihkflhhhpjaaDoor
