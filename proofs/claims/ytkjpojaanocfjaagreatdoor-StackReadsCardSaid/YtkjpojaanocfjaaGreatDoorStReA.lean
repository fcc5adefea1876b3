/- A string's lines; walk of newSource; what is read, in plain words. -/
import Derived.Test.YtkjpojaanocfjaaGreatDoorStReQ
namespace Go.Proofs.YtkjpojaanocfjaaGreatDoor
open Go.RowKit
set_option linter.unusedVariables false
set_option linter.unusedSimpArgs false
def linesOf (s : ByteArray) : List ByteArray := Lib.splitB ⟨#[10]⟩ 0 (Lib.countB s ⟨#[10]⟩) s
theorem linesOf_len (s : ByteArray) : (linesOf s).length = Lib.countB s ⟨#[10]⟩ + 1 := Lib.splitB_all _ (by decide) 0 _ s rfl
theorem linesOf_le {s x : ByteArray} (h : x ∈ linesOf s) : x.size ≤ s.size := splitB_le _ _ _ _ h
def linL (s : ByteArray) : List ByteArray := (linesOf s).dropLast
def linT (s : ByteArray) : ByteArray := (linesOf s).getLast?.getD ⟨#[]⟩
theorem linL_len (s : ByteArray) : (linL s).length = Lib.countB s ⟨#[10]⟩ := by unfold linL; rw [List.length_dropLast, linesOf_len]; rfl
theorem linT_at (s : ByteArray) : (linesOf s)[(linL s).length]? = some (linT s) := by
  have h := linesOf_len s
  unfold linT
  rw [linL_len, List.getLast?_eq_getElem?, h]
  simp only [Nat.add_sub_cancel]
  rw [List.getElem?_eq_getElem (by omega)]
  rfl
theorem SplitN_any (s : ByteArray) (W : World) (hs : s.size ≤ 1000000) (hm : Mx W) :
    Calls Tryz.prog 13 #[.string s, .string ⟨#[10]⟩] W fun e w' => e = .returned (.slice (some ⟨W.heap.size, 0, none⟩) ((linL s).length + 1) ((linL s).length + 1)) ∧ Below W.heap.size W w' ∧ Sl w' (W.heap.size + 1) cs 1 (some ⟨W.heap.size, 0, none⟩) ((linL s).length + 1) (linesOf s) ∧ w'.heap.size = W.heap.size + 1 := by
  obtain ⟨m, hm⟩ := hm
  refine (Tryz.strings_Split s ⟨#[10]⟩ m W (by omega) hm (by decide)).mono ?_
  rintro e w' ⟨rfl, rfl⟩
  rw [linL_len]
  refine ⟨rfl, (Below.refl _ _).alloc (Nat.le_refl _) _, ?_, by simp⟩
  have := sl_words W (linesOf s) 9
  rw [linesOf_len] at this
  simp at this
  exact this
set_option maxRecDepth 100000 in
set_option maxHeartbeats 4000000 in
theorem newSource_any (s : ByteArray) (w : World) (hs : s.size ≤ 1000000) (hm : Mx w) :
    Calls Tryz.prog 21 #[.string s] w fun e w' => ∃ p c, e = .returned (.pointer (some ⟨p, 0, none⟩)) ∧ Src p (some ⟨w.heap.size, 0, none⟩) (linL s).length c (linL s) (linT s) 0 w' ∧ w.heap.size ≤ p ∧ Below w.heap.size w w' := by
  have hcnt : (linL s).length ≤ 1000000 := by rw [linL_len]; have := Lib.countB_le ⟨#[10]⟩ (by decide) _ s (Nat.le_refl _); omega
  have HSP := hide (SplitN_any s w hs hm)
  have HTA := hide (linT_at s)
  have hmlt := hm.lt
  have HM := hide hm
  have hsz : ∀ x ∈ linesOf s, x.size ≤ 1000000 := fun x hx => by have := linesOf_le hx; omega
  have HSZ := hide hsz
  have hll : linL s = (linesOf s).take (linL s).length := by unfold linL; rw [List.dropLast_eq_take]; simp
  have HLL := hide hll
  clear hm hsz hll
  obtain ⟨m, hmm⟩ : ∃ m, (linL s).length = m := ⟨_, rfl⟩
  simp only [hmm] at HSP HTA hcnt HLL
  rw [hmm]
  have HMM := hide hmm
  clear hmm
  have hwm : IntKind.i64.wrap (m : Int) = (m : Int) := IntWalk.i64_in _ (by omega)
  have hlm : (m : Int) < (m : Int) + 1 := by omega
  have hlm2 : (m : Int) ≤ (m : Int) + 1 := by omega
  go_enter Tryz.func21, Tryz.ntmps21
  go_wp2_with (go_at_call 13; refine HSP.out.mono ?_; rintro e w1 ⟨rfl, hb1, hsl1, hz1⟩; have HB1 := hide hb1; have HSL := hide hsl1; clear hb1 hsl1)
  have c1 : w1.cell? ⟨w.heap.size, m, none⟩ = some (.string (linT s)) := by
    obtain ⟨b, o, e, _, hc⟩ := HSL.out.cells (by omega)
    simp at e
    obtain ⟨rfl, rfl⟩ := e
    have := hc m _ HTA.out 0 _ rfl
    simpa using this
  refine wp_region_chain (fun W => W.cell? ⟨w.heap.size, m, none⟩ = some (.string (linT s))) 12 (by as_aux_lemma => kernel_rfl) (N := 14) (by as_aux_lemma => kernel_rfl) ?_; intro hsh
  have HSS : w1.drew.cell? ⟨w.heap.size, m, none⟩ = some (.string (linT s)) := c1
  refine wpAnyC_take0 (i := 0) (k := 12) (v := ?_) (d := some 6) rfl (by rfl) (by as_aux_lemma => kernel_rfl) (by as_aux_lemma => kernel_rfl) (by as_aux_lemma => kernel_rfl) hsh (by decide) (by intro _ _ _ h; exact h) (by assumption) (Or.inl ⟨by rfl, ?hy⟩) ?_; (case hy => (intro W _; go_simp; (try with_reducible rfl))); clear hsh; intro hsh
  refine wpAnyC_take0 (i := 1) (k := 12) (v := ?_) (d := some 7) rfl (by rfl) (by as_aux_lemma => kernel_rfl) (by as_aux_lemma => kernel_rfl) (by as_aux_lemma => kernel_rfl) hsh (by decide) (by intro _ _ _ h; exact h) (by assumption) (Or.inl ⟨by rfl, ?hy⟩) ?_; (case hy => (intro W _; go_simp; (try with_reducible rfl))); clear hsh; intro hsh
  refine wpAnyC_take0 (i := 2) (k := 12) (v := ?_) (d := some 8) rfl (by rfl) (by as_aux_lemma => kernel_rfl) (by as_aux_lemma => kernel_rfl) (by as_aux_lemma => kernel_rfl) hsh (by decide) (by intro _ _ _ h; exact h) (by assumption) (Or.inl ⟨by rfl, ?hy⟩) ?_; (case hy => (intro W _; go_simp; (try with_reducible rfl))); clear hsh; intro hsh
  refine wpAnyC_take0 (i := 3) (k := 12) (v := ?_) (d := some 9) rfl (by rfl) (by as_aux_lemma => kernel_rfl) (by as_aux_lemma => kernel_rfl) (by as_aux_lemma => kernel_rfl) hsh (by decide) (by intro _ _ _ h; exact h) (by assumption) (Or.inl ⟨by rfl, ?hy⟩) ?_; (case hy => (intro W _; go_simp; (try with_reducible rfl))); clear hsh; intro hsh
  refine wpAnyC_take0 (i := 4) (k := 12) (v := ?_) (d := some 10) rfl (by rfl) (by as_aux_lemma => kernel_rfl) (by as_aux_lemma => kernel_rfl) (by as_aux_lemma => kernel_rfl) hsh (by decide) (by intro _ _ _ h; exact h) (by assumption) (Or.inl ⟨by rfl, ?hy⟩) ?_; (case hy => (intro W _; go_simp; (try with_reducible rfl))); clear hsh; intro hsh
  refine wpAnyC_take0 (i := 5) (k := 12) (v := ?_) (d := some 11) rfl (by rfl) (by as_aux_lemma => kernel_rfl) (by as_aux_lemma => kernel_rfl) (by as_aux_lemma => kernel_rfl) hsh (by decide) (by intro _ _ _ h; exact h) (by assumption) (Or.inl ⟨by rfl, ?hy⟩) ?_; (case hy => (intro W _; go_simp; (try with_reducible rfl))); clear hsh; intro hsh
  refine wpAnyC_take0 (i := 6) (k := 12) (v := ?_) (d := some 12) rfl (by rfl) (by as_aux_lemma => kernel_rfl) (by as_aux_lemma => kernel_rfl) (by as_aux_lemma => kernel_rfl) hsh (by decide) (by intro _ _ _ h; exact h) (by assumption) (Or.inl ⟨by rfl, ?hy⟩) ?_; (case hy => (intro W _; go_simp; (try with_reducible rfl))); clear hsh; intro hsh
  refine wpAnyC_take0 (i := 7) (k := 12) (v := ?_) (d := some 13) rfl (by rfl) (by as_aux_lemma => kernel_rfl) (by as_aux_lemma => kernel_rfl) (by as_aux_lemma => kernel_rfl) hsh (by decide) (by intro _ _ _ h; exact h) (by assumption) (Or.inl ⟨by rfl, ?hy⟩) ?_; (case hy => (intro W _; go_simp; (try with_reducible rfl))); clear hsh; intro hsh
  refine wpAnyC_take0 (i := 8) (k := 12) (v := ?_) (d := some 14) rfl (by rfl) (by as_aux_lemma => kernel_rfl) (by as_aux_lemma => kernel_rfl) (by as_aux_lemma => kernel_rfl) hsh (by decide) (by intro _ _ _ h; exact h) (by assumption) (Or.inl ⟨by rfl, ?hy⟩) ?_; (case hy => (intro W _; go_simp; (try with_reducible rfl))); clear hsh; intro hsh
  refine wpAnyC_take0 (i := 9) (k := 12) (v := ?_) (d := some 15) rfl (by rfl) (by as_aux_lemma => kernel_rfl) (by as_aux_lemma => kernel_rfl) (by as_aux_lemma => kernel_rfl) hsh (by decide) (by intro _ _ _ h; exact h) (by assumption) (Or.inl ⟨by rfl, ?hy⟩) ?_; (case hy => (intro W _; go_simp; (try with_reducible rfl))); clear hsh; intro hsh
  refine wpAnyC_take (i := 10) (k := 12) (f := 40) (v := ?_) (d := some 16) rfl (by rfl) (by as_aux_lemma => kernel_rfl) (by as_aux_lemma => kernel_rfl) (by as_aux_lemma => kernel_rfl) hsh (by decide) (by as_aux_lemma => kernel_rfl) (by intro _ _ _ h; exact h) (by assumption) (Or.inl ⟨by rfl, ?hy⟩) ?_; (case hy => (rintro W y0; go_simp; (try with_reducible rfl))); clear hsh; intro hsh
  refine wpAnyC_take0 (i := 11) (k := 12) (v := ?_) (d := some 17) rfl (by rfl) (by as_aux_lemma => kernel_rfl) (by as_aux_lemma => kernel_rfl) (by as_aux_lemma => kernel_rfl) hsh (by decide) (by intro _ _ _ h; exact h) (by assumption) (Or.inl ⟨by rfl, ?hy⟩) ?_; (case hy => (intro W _; go_simp; (try with_reducible rfl))); clear hsh; intro hsh
  refine wpAnyC_tail (by as_aux_lemma => kernel_rfl) (by simp) (by as_aux_lemma => kernel_rfl) ?_; simp only [List.drop_succ_cons, List.drop_zero]; clear hsh
  go_simp
  go_wp2_with (fail)
  go_ret
  have hbx := heap_alloc_new w1 (.cells #[.slice (some ⟨w.heap.size, 0, none⟩) m (m + 1), .int .i64 0, .string (linT s)] 50)
  rw [hz1] at hbx
  have hbe : Below w.heap.size w ((w1.alloc (.cells #[.slice (some ⟨w.heap.size, 0, none⟩) m (m + 1), .int .i64 0, .string (linT s)] 50)).drewN 1) := below_drewN (HB1.out.alloc HB1.out.size _) 1
  have hsl : Sl w1 (w.heap.size + 1) cs 1 (some ⟨w.heap.size, 0, none⟩) m (linL s) := by
    have := HSL.out.first (i := m) (by omega)
    rw [← HLL.out] at this
    exact this
  have hbl : Below (w.heap.size + 1) w1 ((w1.alloc (.cells #[.slice (some ⟨w.heap.size, 0, none⟩) m (m + 1), .int .i64 0, .string (linT s)] 50)).drewN 1) := below_drewN ((Below.refl _ _).alloc (by omega) _) 1
  refine ⟨w.heap.size + 1, m + 1, rfl, ⟨hbx, hsl.below hbl, fun x hx => HSZ.out x ((List.dropLast_sublist _).subset hx), by omega, HSZ.out _ (List.mem_of_getElem? HTA.out), Nat.zero_le _, by omega, HM.out.up hbe (Nat.le_refl _)⟩, by omega, hbe⟩
end Go.Proofs.YtkjpojaanocfjaaGreatDoor
