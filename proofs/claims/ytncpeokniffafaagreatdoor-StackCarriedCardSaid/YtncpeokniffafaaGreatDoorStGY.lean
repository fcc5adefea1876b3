/- StReA, StReB, StReC: texts of one's own, in one file. -/
import Derived.Test.YtncpeokniffafaaGreatDoorStReQ
import Derived.Lib.IndexMore
/- A string's lines; walk of newSource; what is read, in plain words. -/
namespace Go.Proofs.YtncpeokniffafaaGreatDoor
open Go.RowKit
set_option linter.unusedVariables false
set_option linter.unusedSimpArgs false
def linesOf (s : ByteArray) : List ByteArray := Lib.splitB ⟨#[10]⟩ 0 (Lib.countB s ⟨#[10]⟩) s
theorem linesOf_len (s : ByteArray) : (linesOf s).length = Lib.countB s ⟨#[10]⟩ + 1 := Lib.splitB_all _ (by decide) 0 _ s rfl
theorem linesOf_le {s x : ByteArray} (h : x ∈ linesOf s) : x.size ≤ s.size := splitB_le _ _ _ _ h
def linL (s : ByteArray) : List ByteArray := (linesOf s).dropLast
def linT (s : ByteArray) : ByteArray := (linesOf s).getLast?.getD ⟨#[]⟩
theorem linL_len (s : ByteArray) : (linL s).length = Lib.countB s ⟨#[10]⟩ := by unfold linL; rw [List.length_dropLast, linesOf_len]; rfl
theorem linT_at (s : ByteArray) : (linesOf s)[(linL s).length]? = some (linT s) := by
  have h := linesOf_len s
  unfold linT
  rw [linL_len, List.getLast?_eq_getElem?, h]
  simp only [Nat.add_sub_cancel]
  rw [List.getElem?_eq_getElem (by omega)]
  rfl
theorem SplitN_any (s : ByteArray) (W : World) (hs : s.size ≤ 1000000) (hm : Mx W) :
    Calls Tryz.prog 41 #[.string s, .string ⟨#[10]⟩] W fun e w' => e = .returned (.slice (some ⟨W.heap.size, 0, none⟩) ((linL s).length + 1) ((linL s).length + 1)) ∧ Below W.heap.size W w' ∧ Sl w' (W.heap.size + 1) cs 1 (some ⟨W.heap.size, 0, none⟩) ((linL s).length + 1) (linesOf s) ∧ w'.heap.size = W.heap.size + 1 := by
  obtain ⟨m, hm⟩ := hm
  refine (Tryz.strings_Split s ⟨#[10]⟩ m W (by omega) hm (by decide)).mono ?_
  rintro e w' ⟨rfl, rfl⟩
  rw [linL_len]
  refine ⟨rfl, (Below.refl _ _).alloc (Nat.le_refl _) _, ?_, by simp⟩
  have := sl_words W (linesOf s) 9
  rw [linesOf_len] at this
  simp at this
  exact this
set_option maxRecDepth 100000 in
set_option maxHeartbeats 4000000 in
theorem newSource_any (s : ByteArray) (w : World) (hs : s.size ≤ 1000000) (hm : Mx w) :
    Calls Tryz.prog 30 #[.string s] w fun e w' => ∃ p c, e = .returned (.pointer (some ⟨p, 0, none⟩)) ∧ Src p (some ⟨w.heap.size, 0, none⟩) (linL s).length c (linL s) (linT s) 0 w' ∧ w.heap.size ≤ p ∧ Below w.heap.size w w' := by
  have hcnt : (linL s).length ≤ 1000000 := by rw [linL_len]; have := Lib.countB_le ⟨#[10]⟩ (by decide) _ s (Nat.le_refl _); omega
  have HSP := hide (SplitN_any s w hs hm)
  have HTA := hide (linT_at s)
  have hmlt := hm.lt
  have HM := hide hm
  have hsz : ∀ x ∈ linesOf s, x.size ≤ 1000000 := fun x hx => by have := linesOf_le hx; omega
  have HSZ := hide hsz
  have hll : linL s = (linesOf s).take (linL s).length := by unfold linL; rw [List.dropLast_eq_take]; simp
  have HLL := hide hll
  clear hm hsz hll
  obtain ⟨m, hmm⟩ : ∃ m, (linL s).length = m := ⟨_, rfl⟩
  simp only [hmm] at HSP HTA hcnt HLL
  rw [hmm]
  have HMM := hide hmm
  clear hmm
  have hwm : IntKind.i64.wrap (m : Int) = (m : Int) := IntWalk.i64_in _ (by omega)
  have hlm : (m : Int) < (m : Int) + 1 := by omega
  have hlm2 : (m : Int) ≤ (m : Int) + 1 := by omega
  go_enter Tryz.func30, Tryz.ntmps30
  go_wp2_with (go_at_call 41; refine HSP.out.mono ?_; rintro e w1 ⟨rfl, hb1, hsl1, hz1⟩; have HB1 := hide hb1; have HSL := hide hsl1; clear hb1 hsl1)
  have c1 : w1.cell? ⟨w.heap.size, m, none⟩ = some (.string (linT s)) := by
    obtain ⟨b, o, e, _, hc⟩ := HSL.out.cells (by omega)
    simp at e
    obtain ⟨rfl, rfl⟩ := e
    have := hc m _ HTA.out 0 _ rfl
    simpa using this
  refine wp_region_chain (fun W => W.cell? ⟨w.heap.size, m, none⟩ = some (.string (linT s))) 12 (by as_aux_lemma => kernel_rfl) (N := 14) (by as_aux_lemma => kernel_rfl) ?_; intro hsh
  have HSS : w1.drew.cell? ⟨w.heap.size, m, none⟩ = some (.string (linT s)) := c1
  refine wpAnyC_take0 (i := 0) (k := 12) (v := ?_) (d := some 6) rfl (by rfl) (by as_aux_lemma => kernel_rfl) (by as_aux_lemma => kernel_rfl) (by as_aux_lemma => kernel_rfl) hsh (by decide) (by intro _ _ _ h; exact h) (by assumption) (Or.inl ⟨by rfl, ?hy⟩) ?_; (case hy => (intro W _; go_simp; (try with_reducible rfl))); clear hsh; intro hsh
  refine wpAnyC_take0 (i := 1) (k := 12) (v := ?_) (d := some 7) rfl (by rfl) (by as_aux_lemma => kernel_rfl) (by as_aux_lemma => kernel_rfl) (by as_aux_lemma => kernel_rfl) hsh (by decide) (by intro _ _ _ h; exact h) (by assumption) (Or.inl ⟨by rfl, ?hy⟩) ?_; (case hy => (intro W _; go_simp; (try with_reducible rfl))); clear hsh; intro hsh
  refine wpAnyC_take0 (i := 2) (k := 12) (v := ?_) (d := some 8) rfl (by rfl) (by as_aux_lemma => kernel_rfl) (by as_aux_lemma => kernel_rfl) (by as_aux_lemma => kernel_rfl) hsh (by decide) (by intro _ _ _ h; exact h) (by assumption) (Or.inl ⟨by rfl, ?hy⟩) ?_; (case hy => (intro W _; go_simp; (try with_reducible rfl))); clear hsh; intro hsh
  refine wpAnyC_take0 (i := 3) (k := 12) (v := ?_) (d := some 9) rfl (by rfl) (by as_aux_lemma => kernel_rfl) (by as_aux_lemma => kernel_rfl) (by as_aux_lemma => kernel_rfl) hsh (by decide) (by intro _ _ _ h; exact h) (by assumption) (Or.inl ⟨by rfl, ?hy⟩) ?_; (case hy => (intro W _; go_simp; (try with_reducible rfl))); clear hsh; intro hsh
  refine wpAnyC_take0 (i := 4) (k := 12) (v := ?_) (d := some 10) rfl (by rfl) (by as_aux_lemma => kernel_rfl) (by as_aux_lemma => kernel_rfl) (by as_aux_lemma => kernel_rfl) hsh (by decide) (by intro _ _ _ h; exact h) (by assumption) (Or.inl ⟨by rfl, ?hy⟩) ?_; (case hy => (intro W _; go_simp; (try with_reducible rfl))); clear hsh; intro hsh
  refine wpAnyC_take0 (i := 5) (k := 12) (v := ?_) (d := some 11) rfl (by rfl) (by as_aux_lemma => kernel_rfl) (by as_aux_lemma => kernel_rfl) (by as_aux_lemma => kernel_rfl) hsh (by decide) (by intro _ _ _ h; exact h) (by assumption) (Or.inl ⟨by rfl, ?hy⟩) ?_; (case hy => (intro W _; go_simp; (try with_reducible rfl))); clear hsh; intro hsh
  refine wpAnyC_take0 (i := 6) (k := 12) (v := ?_) (d := some 12) rfl (by rfl) (by as_aux_lemma => kernel_rfl) (by as_aux_lemma => kernel_rfl) (by as_aux_lemma => kernel_rfl) hsh (by decide) (by intro _ _ _ h; exact h) (by assumption) (Or.inl ⟨by rfl, ?hy⟩) ?_; (case hy => (intro W _; go_simp; (try with_reducible rfl))); clear hsh; intro hsh
  refine wpAnyC_take0 (i := 7) (k := 12) (v := ?_) (d := some 13) rfl (by rfl) (by as_aux_lemma => kernel_rfl) (by as_aux_lemma => kernel_rfl) (by as_aux_lemma => kernel_rfl) hsh (by decide) (by intro _ _ _ h; exact h) (by assumption) (Or.inl ⟨by rfl, ?hy⟩) ?_; (case hy => (intro W _; go_simp; (try with_reducible rfl))); clear hsh; intro hsh
  refine wpAnyC_take0 (i := 8) (k := 12) (v := ?_) (d := some 14) rfl (by rfl) (by as_aux_lemma => kernel_rfl) (by as_aux_lemma => kernel_rfl) (by as_aux_lemma => kernel_rfl) hsh (by decide) (by intro _ _ _ h; exact h) (by assumption) (Or.inl ⟨by rfl, ?hy⟩) ?_; (case hy => (intro W _; go_simp; (try with_reducible rfl))); clear hsh; intro hsh
  refine wpAnyC_take0 (i := 9) (k := 12) (v := ?_) (d := some 15) rfl (by rfl) (by as_aux_lemma => kernel_rfl) (by as_aux_lemma => kernel_rfl) (by as_aux_lemma => kernel_rfl) hsh (by decide) (by intro _ _ _ h; exact h) (by assumption) (Or.inl ⟨by rfl, ?hy⟩) ?_; (case hy => (intro W _; go_simp; (try with_reducible rfl))); clear hsh; intro hsh
  refine wpAnyC_take (i := 10) (k := 12) (f := 40) (v := ?_) (d := some 16) rfl (by rfl) (by as_aux_lemma => kernel_rfl) (by as_aux_lemma => kernel_rfl) (by as_aux_lemma => kernel_rfl) hsh (by decide) (by as_aux_lemma => kernel_rfl) (by intro _ _ _ h; exact h) (by assumption) (Or.inl ⟨by rfl, ?hy⟩) ?_; (case hy => (rintro W y0; go_simp; (try with_reducible rfl))); clear hsh; intro hsh
  refine wpAnyC_take0 (i := 11) (k := 12) (v := ?_) (d := some 17) rfl (by rfl) (by as_aux_lemma => kernel_rfl) (by as_aux_lemma => kernel_rfl) (by as_aux_lemma => kernel_rfl) hsh (by decide) (by intro _ _ _ h; exact h) (by assumption) (Or.inl ⟨by rfl, ?hy⟩) ?_; (case hy => (intro W _; go_simp; (try with_reducible rfl))); clear hsh; intro hsh
  refine wpAnyC_tail (by as_aux_lemma => kernel_rfl) (by simp) (by as_aux_lemma => kernel_rfl) ?_; simp only [List.drop_succ_cons, List.drop_zero]; clear hsh
  go_simp
  go_wp2_with (fail)
  go_ret
  have hbx := heap_alloc_new w1 (.cells #[.slice (some ⟨w.heap.size, 0, none⟩) m (m + 1), .int .i64 0, .string (linT s)] 70)
  rw [hz1] at hbx
  have hbe : Below w.heap.size w ((w1.alloc (.cells #[.slice (some ⟨w.heap.size, 0, none⟩) m (m + 1), .int .i64 0, .string (linT s)] 70)).drewN 1) := below_drewN (HB1.out.alloc HB1.out.size _) 1
  have hsl : Sl w1 (w.heap.size + 1) cs 1 (some ⟨w.heap.size, 0, none⟩) m (linL s) := by
    have := HSL.out.first (i := m) (by omega)
    rw [← HLL.out] at this
    exact this
  have hbl : Below (w.heap.size + 1) w1 ((w1.alloc (.cells #[.slice (some ⟨w.heap.size, 0, none⟩) m (m + 1), .int .i64 0, .string (linT s)] 70)).drewN 1) := below_drewN ((Below.refl _ _).alloc (by omega) _) 1
  refine ⟨w.heap.size + 1, m + 1, rfl, ⟨hbx, hsl.below hbl, fun x hx => HSZ.out x ((List.dropLast_sublist _).subset hx), by omega, HSZ.out _ (List.mem_of_getElem? HTA.out), Nat.zero_le _, by omega, HM.out.up hbe (Nat.le_refl _)⟩, by omega, hbe⟩
end Go.Proofs.YtncpeokniffafaaGreatDoor

/- What is read, in plain words: the whole of Read. -/
namespace Go.Proofs.YtncpeokniffafaaGreatDoor
open Go.RowKit
set_option linter.unusedVariables false
set_option linter.unusedSimpArgs false
theorem lastN : ∀ (k : Nat) (s : ByteArray), Lib.countB s ⟨#[10]⟩ = k → 0 < s.size → (emptyB ((Lib.splitB ⟨#[10]⟩ 0 k s).getLast?.getD ⟨#[]⟩) = true ↔ s.data.toList.getLast? = some 10) := by
  intro k
  induction k with
  | zero =>
    intro s hk hs
    rcases Lib.indexB_cases s ⟨#[10]⟩ with h | ⟨i, h, hr⟩
    · have hk : Lib.index s.data.toList [10] = -1 := h
      rw [Lib.index_one] at hk
      have hc : s.data.toList.contains 10 = false := by
        cases hc : s.data.toList.contains 10
        · rfl
        · have := indexByte_nonneg _ _ hc; omega
      rw [Lib.splitB_zero]
      constructor
      · intro he
        have := emptyB_iff he
        simp at this
        rw [this] at hs
        exact absurd hs (by decide)
      · intro he
        have := List.mem_of_getLast? he
        rw [← List.contains_iff_mem] at this
        rw [hc] at this
        cases this
    · have := Lib.countB_hit s ⟨#[10]⟩ i (by decide) h
      omega
  | succ k ih =>
    intro s hk hs
    rcases Lib.indexB_cases s ⟨#[10]⟩ with h | ⟨i, h, hr⟩
    · have := Lib.countB_miss _ _ h
      omega
    · have hc := Lib.countB_hit s ⟨#[10]⟩ i (by decide) h
      have h1 : (⟨#[10]⟩ : ByteArray).size = 1 := rfl
      rw [h1] at hc hr
      rw [Lib.splitB_hit _ _ _ _ _ h, h1]
      obtain ⟨r, hr'⟩ : ∃ r, s.extract (i + 1) s.size = r := ⟨_, rfl⟩
      rw [hr'] at hc ⊢
      have hck : Lib.countB r ⟨#[10]⟩ = k := by omega
      have hrl : r.data.toList = s.data.toList.drop (i + 1) := by rw [← hr']; exact Lib.extract_to_end s (i + 1)
      have hlen : (Lib.splitB ⟨#[10]⟩ 0 k r).length = k + 1 := by have := Lib.splitB_all ⟨#[10]⟩ (by decide) 0 k r hck; omega
      have hg : (s.extract 0 (i + 0) :: Lib.splitB ⟨#[10]⟩ 0 k r).getLast? = (Lib.splitB ⟨#[10]⟩ 0 k r).getLast? := by
        cases hl : Lib.splitB ⟨#[10]⟩ 0 k r with
        | nil => rw [hl] at hlen; simp at hlen
        | cons a l => rw [List.getLast?_cons_cons]
      rw [hg]
      have hss := len_size' s
      by_cases hz : r.size = 0
      · have hr0 : r = ⟨#[]⟩ := by
          apply ByteArray.ext
          apply Array.toList_inj.1
          have := len_size' r
          rw [hz] at this
          exact List.eq_nil_of_length_eq_zero this
        have hk0 : k = 0 := by rw [hr0] at hck; rw [← hck]; decide
        subst hk0
        rw [Lib.splitB_zero, hr0]
        have hsz : s.size = i + 1 := by
          have : (s.data.toList.drop (i + 1)).length = 0 := by rw [← hrl, hr0]; rfl
          rw [List.length_drop, hss] at this
          omega
        have hoc : s.data.toList[i]? = some 10 := by
          rcases Lib.index_spec s.data.toList [10] with ⟨h2, _⟩ | ⟨i2, h2, _, ho, _⟩
          · have h3 : Lib.index s.data.toList [10] = (i : Int) := h
            omega
          · have h3 : Lib.index s.data.toList [10] = (i : Int) := h
            obtain rfl : i2 = i := by omega
            unfold Lib.occAt at ho
            obtain ⟨t, ht⟩ := List.isPrefixOf_iff_prefix.1 ho
            have h4 : (s.data.toList.drop i2)[0]? = some 10 := by rw [← ht]; rfl
            rw [List.getElem?_drop] at h4
            exact h4
        constructor
        · intro _
          rw [List.getLast?_eq_getElem?, hss, hsz]
          exact hoc
        · intro _; exact emptyB_nil
      · rw [ih r hck (by omega), hrl, List.getLast?_drop, if_neg]
        rw [hss]
        have h2 : (s.data.toList.drop (i + 1)).length = r.size := by rw [← hrl]; exact len_size' r
        rw [List.length_drop, hss] at h2
        omega
theorem linT_last (s : ByteArray) (hs : 0 < s.size) : emptyB (linT s) = true ↔ s.data.toList.getLast? = some 10 := lastN _ s rfl hs
/-- A fault without its place in memory. -/
def Flt.toT (x : Flt) : FaultT := ⟨x.kind, x.text, none, 0, 0, x.frs⟩
def errF (l : List Flt) : Int := fltsErr (l.map Flt.toT)
theorem errF_map (l : List FaultT) : fltsErr l = errF (l.map FaultT.flt) := by
  unfold errF fltsErr
  have hlen : ((l.map FaultT.flt).map Flt.toT).length = l.length := by simp
  have hat : fltAt ((l.map FaultT.flt).map Flt.toT) = fltAt l := by
    funext k
    unfold fltAt
    rw [List.getElem?_map, List.getElem?_map]
    cases l[k]? with
    | none => rfl
    | some x => rfl
  rw [hlen, hat]
def rdR (s : ByteArray) (form : Int) : RdR := if form = 1 then innR (linL s) (linT s) ((linL s).length + 1) 0 [] ⟨#[]⟩ else if form = 2 then outR (linL s) ((linL s).length + 1) 0 [] else parR (linL s) ((linL s).length + 1) 0 []
/-- What is read, the line that is wrong. -/
def rdA (s : ByteArray) (form : Int) : RdR := if (rdR s form).2 = 0 ∧ emptyB (linT s) = false then ((rdR s form).1, (linL s).length + 1) else rdR s form
/-- What Read answers: faults, a line, an error. -/
def rdX (s : ByteArray) (form : Int) : List Flt × Nat × Int :=
  if 1000000 < s.size then ([], 0, 4) else if form < 1 ∨ 3 < form then ([], 0, 10) else if 0 < (rdA s form).2 then ([], (rdA s form).2, 8)
  else if errF ((rdA s form).1.getD []) = 0 then ((rdA s form).1.getD [], 0, 0) else ([], 0, errF ((rdA s form).1.getD []))
theorem begK_nil (k : Nat) (pre : ByteArray) : begK [] k pre = false := by unfold begK; simp
theorem fltS_nil (k : Nat) (pre : ByteArray) : fltS [] k pre = none := by unfold fltS; rw [begK_nil]; rfl
theorem rdR_nil {s : ByteArray} (form : Int) (h : linL s = []) : (rdR s form).2 = 1 := by
  unfold rdR
  rw [h]
  split
  · show (innR [] (linT s) 1 0 [] ⟨#[]⟩).2 = 1
    rw [innR, innStep, fltS_nil]
  · split
    · show (outR [] 1 0 []).2 = 1
      rw [outR, outStep, lineIs, begK_nil]; rfl
    · show (parR [] 1 0 []).2 = 1
      rw [parR, parStep, fltS_nil]
theorem rdR_pos {s : ByteArray} {form : Int} (h : (rdR s form).2 = 0) : 0 < s.size := by
  rcases Nat.eq_zero_or_pos s.size with h0 | h0
  · exfalso
    have hl : linL s = [] := by
      apply List.eq_nil_of_length_eq_zero
      rw [linL_len]
      have : s = ⟨#[]⟩ := by
        apply ByteArray.ext
        apply Array.toList_inj.1
        have := len_size' s
        rw [h0] at this
        exact List.eq_nil_of_length_eq_zero this
      rw [this]; decide
    have := rdR_nil form hl
    omega
  · exact h0
end Go.Proofs.YtncpeokniffafaaGreatDoor

/- Walks of read, Read and Guess (printed by gen_rx.py). -/
namespace Go.Proofs.YtncpeokniffafaaGreatDoor
open Go.RowKit
set_option linter.unusedVariables false
set_option linter.unusedSimpArgs false
theorem Fts.low {B B' : Nat} {w : World} {v : Value} {l : List FaultT} (h : Fts B w v l) (hB : B' ≤ B) : Fts B' w v l := by
  refine ⟨⟨h.out.1, ?_⟩, h.ok, fun x hx => ?_⟩
  · rcases h.out.2 with h0 | ⟨g, cap, cur, h1, h2, h3⟩
    · exact .inl h0
    · exact .inr ⟨g, cap, cur, h1, by omega, h3⟩
  · rcases h.lies x hx with h0 | ⟨g, o, cs, e, hg, hc⟩
    · exact .inl h0
    · exact .inr ⟨g, o, cs, e, by omega, hc⟩
/-- The last byte of a string. -/
theorem last_byte {s : ByteArray} {m : Nat} (h : s.size = m + 1) : s.data.toList.getLast? = some (s[m]'(by omega)) := by
  have e : s.size - 1 = m := by omega
  rw [List.getLast?_eq_getElem?, len_size', e]
  rw [Array.getElem?_toList, Array.getElem?_eq_getElem (by show m < s.size; omega)]
  rfl
set_option maxRecDepth 100000 in
set_option maxHeartbeats 16000000 in
theorem read_any (s : ByteArray) (form : Int) (w : World) (hs : s.size ≤ 1000000) (hf : 1 ≤ form ∧ form ≤ 3) (hm : Mx w) :
    Calls Tryz.prog 17 #[.string s, .int .i64 form] w fun e w' => RdOut w.heap.size (rdA s form) e w' ∧ Below w.heap.size w w' := by
  have HNS := hide (newSource_any s w hs hm)
  have hpos := fun h : (rdR s form).2 = 0 => rdR_pos h
  have hlast := linT_last s
  have hA : rdA s form = if (rdR s form).2 = 0 ∧ emptyB (linT s) = false then ((rdR s form).1, (linL s).length + 1) else rdR s form := rfl
  have hR : rdR s form = rdR s form := rfl
  conv at hR => rhs; unfold rdR
  have hll : (linL s).length ≤ 1000000 := by rw [linL_len]; have := Lib.countB_le ⟨#[10]⟩ (by decide) _ s (Nat.le_refl _); omega
  obtain ⟨Q, hQ⟩ : ∃ Q, rdA s form = Q := ⟨_, rfl⟩
  obtain ⟨R, hRR⟩ : ∃ R, rdR s form = R := ⟨_, rfl⟩
  obtain ⟨m, hmm⟩ : ∃ m, (linL s).length = m := ⟨_, rfl⟩
  rw [hQ, hRR] at hA
  rw [hRR] at hpos hR
  rw [hQ]
  simp only [hmm] at hR hA hll HNS
  clear hm hQ hRR hmm
  obtain ⟨R1, R2⟩ := R
  simp only at hpos hA
  obtain hf1 | hf1 | hf1 : form = 1 ∨ form = 2 ∨ form = 3 := by omega
  · subst hf1
    simp only [if_true] at hR
    clear hf
    have hrd := fun W p c (H : Src p (some ⟨w.heap.size, 0, none⟩) m c (linL s) (linT s) 0 W) => readInner_any H
    have hrd : ∀ W p c, Src p (some ⟨w.heap.size, 0, none⟩) m c (linL s) (linT s) 0 W → Calls Tryz.prog 31 #[.pointer (some ⟨p, 0, none⟩)] W fun e w' => RdOut W.heap.size (R1, R2) e w' ∧ (∃ k, Src p (some ⟨w.heap.size, 0, none⟩) m c (linL s) (linT s) k w') ∧ ButAt p W w' := fun W p c H => by
      have h9 := hrd W p c H
      rw [H.sl.len, ← hR] at h9
      exact h9
    have HRD := hide hrd
    clear hrd hR
    by_cases h0 : R2 = 0
    · subst h0
      have hsp := hpos rfl
      obtain ⟨q, hq⟩ : ∃ q, s.size = q + 1 := ⟨s.size - 1, by omega⟩
      have hlb := last_byte hq
      rw [hlb] at hlast
      have hlast := hlast hsp
      have hqs : q < s.size := by omega
      have hqi : ((s.size : Int) - 1).toNat = q := by omega
      have hq0 : (0 : Int) ≤ (s.size : Int) - 1 := by omega
      have hq1 : (s.size : Int) - 1 < (s.size : Int) := by omega
      cases he : emptyB (linT s)
      · have hA2 : Q = (R1, m + 1) := by rw [hA, if_pos ⟨rfl, he⟩]
        have hby : ¬ (s[q]'hqs).toNat = 10 := fun h9 => by
          have h8 : emptyB (linT s) = true := hlast.2 (by rw [show s[q] = (10 : UInt8) from UInt8.toNat_inj.1 h9])
          rw [he] at h8; cases h8
        have hby2 : ¬ ((s[q]'hqs).toNat : Int) = 10 := by omega
        have E := hide hA2
        obtain ⟨y, hy⟩ : ∃ y, (s[q]'hqs).toNat = y := ⟨_, rfl⟩
        have HQ := hide hq
        clear hA hA2 he hlast hlb hpos
        go_enter Tryz.func17, Tryz.ntmps17
        go_wp2_with (first | (go_at_call 30; refine HNS.out.mono ?_; rintro e w1 ⟨p, c, rfl, hS1, hpw, hb1⟩; have HS1 := hide hS1; have HB1 := hide hb1; clear hS1 hb1) | (go_at_call 31; refine (HRD.out _ _ _ HS1.out).mono ?_; rintro e w2 ⟨⟨v, l, rfl, hF2, hl2⟩, ⟨k2, hS2⟩, hb2⟩; obtain ⟨A2, c2, rfl⟩ := own_sl hF2.out; have HB2 := hide (HB1.out.trans (hb2.be.mono hpw)); have HF2 := hide (hF2.low HB1.out.size); have HL2 := hide hl2; have HS2 := hide hS2; have s0 : w2.cell? ⟨p, 0, none⟩ = some (.slice (some ⟨w.heap.size, 0, none⟩) m c) := (block_cell HS2.out.box 0).trans rfl; clear hF2 hl2 hS2 hb2) | go_quiet (fail))
        refine bodyPost_ret (by simp [results, Tryz.results17, go_sem]; try rfl) rfl ?_
        exact ⟨⟨_, l, by rw [E.out] <;> rfl, HF2.out, by rw [E.out]; exact HL2.out⟩, HB2.out⟩
      · have hA2 : Q = (R1, 0) := by rw [hA, if_neg (fun h9 => by rw [he] at h9; exact absurd h9.2 (by decide))]
        have hby : (s[q]'hqs).toNat = 10 := by
          have h8 := Option.some.inj (hlast.1 he)
          rw [h8]; rfl
        have hby2 : ((s[q]'hqs).toNat : Int) = 10 := by omega
        have E := hide hA2
        obtain ⟨y, hy⟩ : ∃ y, (s[q]'hqs).toNat = y := ⟨_, rfl⟩
        have HQ := hide hq
        clear hA hA2 he hlast hlb hpos
        go_enter Tryz.func17, Tryz.ntmps17
        go_wp2_with (first | (go_at_call 30; refine HNS.out.mono ?_; rintro e w1 ⟨p, c, rfl, hS1, hpw, hb1⟩; have HS1 := hide hS1; have HB1 := hide hb1; clear hS1 hb1) | (go_at_call 31; refine (HRD.out _ _ _ HS1.out).mono ?_; rintro e w2 ⟨⟨v, l, rfl, hF2, hl2⟩, ⟨k2, hS2⟩, hb2⟩; obtain ⟨A2, c2, rfl⟩ := own_sl hF2.out; have HB2 := hide (HB1.out.trans (hb2.be.mono hpw)); have HF2 := hide (hF2.low HB1.out.size); have HL2 := hide hl2; have HS2 := hide hS2; have s0 : w2.cell? ⟨p, 0, none⟩ = some (.slice (some ⟨w.heap.size, 0, none⟩) m c) := (block_cell HS2.out.box 0).trans rfl; clear hF2 hl2 hS2 hb2) | go_quiet (fail))
        refine bodyPost_ret (by simp [results, Tryz.results17, go_sem]; try rfl) rfl ?_
        exact ⟨⟨_, l, by rw [E.out] <;> rfl, HF2.out, by rw [E.out]; exact HL2.out⟩, HB2.out⟩
    · have E := hide (show Q = (R1, R2) by rw [hA, if_neg (fun h9 => h0 h9.1)])
      clear hA hlast hpos
      have h0' : ¬ (R2 : Int) = 0 := by omega
      have h0'' : ((R2 : Int) == 0) = false := by rw [beq_eq_false_iff_ne]; exact h0'
      go_enter Tryz.func17, Tryz.ntmps17
      go_wp2_with (first | (go_at_call 30; refine HNS.out.mono ?_; rintro e w1 ⟨p, c, rfl, hS1, hpw, hb1⟩; have HS1 := hide hS1; have HB1 := hide hb1; clear hS1 hb1) | (go_at_call 31; refine (HRD.out _ _ _ HS1.out).mono ?_; rintro e w2 ⟨⟨v, l, rfl, hF2, hl2⟩, ⟨k2, hS2⟩, hb2⟩; obtain ⟨A2, c2, rfl⟩ := own_sl hF2.out; have HB2 := hide (HB1.out.trans (hb2.be.mono hpw)); have HF2 := hide (hF2.low HB1.out.size); have HL2 := hide hl2; have HS2 := hide hS2; have s0 : w2.cell? ⟨p, 0, none⟩ = some (.slice (some ⟨w.heap.size, 0, none⟩) m c) := (block_cell HS2.out.box 0).trans rfl; clear hF2 hl2 hS2 hb2) | go_quiet (fail))
      refine bodyPost_ret (by simp [results, Tryz.results17, go_sem]; try rfl) rfl ?_
      exact ⟨⟨_, l, by rw [E.out] <;> rfl, HF2.out, by rw [E.out]; exact HL2.out⟩, HB2.out⟩
  · subst hf1
    rw [if_neg (by decide), if_pos rfl] at hR
    clear hf
    have hrd := fun W p c (H : Src p (some ⟨w.heap.size, 0, none⟩) m c (linL s) (linT s) 0 W) => readOuter_any H
    have hrd : ∀ W p c, Src p (some ⟨w.heap.size, 0, none⟩) m c (linL s) (linT s) 0 W → Calls Tryz.prog 32 #[.pointer (some ⟨p, 0, none⟩)] W fun e w' => RdOut W.heap.size (R1, R2) e w' ∧ (∃ k, Src p (some ⟨w.heap.size, 0, none⟩) m c (linL s) (linT s) k w') ∧ ButAt p W w' := fun W p c H => by
      have h9 := hrd W p c H
      rw [H.sl.len, ← hR] at h9
      exact h9
    have HRD := hide hrd
    clear hrd hR
    by_cases h0 : R2 = 0
    · subst h0
      have hsp := hpos rfl
      obtain ⟨q, hq⟩ : ∃ q, s.size = q + 1 := ⟨s.size - 1, by omega⟩
      have hlb := last_byte hq
      rw [hlb] at hlast
      have hlast := hlast hsp
      have hqs : q < s.size := by omega
      have hqi : ((s.size : Int) - 1).toNat = q := by omega
      have hq0 : (0 : Int) ≤ (s.size : Int) - 1 := by omega
      have hq1 : (s.size : Int) - 1 < (s.size : Int) := by omega
      cases he : emptyB (linT s)
      · have hA2 : Q = (R1, m + 1) := by rw [hA, if_pos ⟨rfl, he⟩]
        have hby : ¬ (s[q]'hqs).toNat = 10 := fun h9 => by
          have h8 : emptyB (linT s) = true := hlast.2 (by rw [show s[q] = (10 : UInt8) from UInt8.toNat_inj.1 h9])
          rw [he] at h8; cases h8
        have hby2 : ¬ ((s[q]'hqs).toNat : Int) = 10 := by omega
        have E := hide hA2
        obtain ⟨y, hy⟩ : ∃ y, (s[q]'hqs).toNat = y := ⟨_, rfl⟩
        have HQ := hide hq
        clear hA hA2 he hlast hlb hpos
        go_enter Tryz.func17, Tryz.ntmps17
        go_wp2_with (first | (go_at_call 30; refine HNS.out.mono ?_; rintro e w1 ⟨p, c, rfl, hS1, hpw, hb1⟩; have HS1 := hide hS1; have HB1 := hide hb1; clear hS1 hb1) | (go_at_call 32; refine (HRD.out _ _ _ HS1.out).mono ?_; rintro e w2 ⟨⟨v, l, rfl, hF2, hl2⟩, ⟨k2, hS2⟩, hb2⟩; obtain ⟨A2, c2, rfl⟩ := own_sl hF2.out; have HB2 := hide (HB1.out.trans (hb2.be.mono hpw)); have HF2 := hide (hF2.low HB1.out.size); have HL2 := hide hl2; have HS2 := hide hS2; have s0 : w2.cell? ⟨p, 0, none⟩ = some (.slice (some ⟨w.heap.size, 0, none⟩) m c) := (block_cell HS2.out.box 0).trans rfl; clear hF2 hl2 hS2 hb2) | go_quiet (fail))
        refine bodyPost_ret (by simp [results, Tryz.results17, go_sem]; try rfl) rfl ?_
        exact ⟨⟨_, l, by rw [E.out] <;> rfl, HF2.out, by rw [E.out]; exact HL2.out⟩, HB2.out⟩
      · have hA2 : Q = (R1, 0) := by rw [hA, if_neg (fun h9 => by rw [he] at h9; exact absurd h9.2 (by decide))]
        have hby : (s[q]'hqs).toNat = 10 := by
          have h8 := Option.some.inj (hlast.1 he)
          rw [h8]; rfl
        have hby2 : ((s[q]'hqs).toNat : Int) = 10 := by omega
        have E := hide hA2
        obtain ⟨y, hy⟩ : ∃ y, (s[q]'hqs).toNat = y := ⟨_, rfl⟩
        have HQ := hide hq
        clear hA hA2 he hlast hlb hpos
        go_enter Tryz.func17, Tryz.ntmps17
        go_wp2_with (first | (go_at_call 30; refine HNS.out.mono ?_; rintro e w1 ⟨p, c, rfl, hS1, hpw, hb1⟩; have HS1 := hide hS1; have HB1 := hide hb1; clear hS1 hb1) | (go_at_call 32; refine (HRD.out _ _ _ HS1.out).mono ?_; rintro e w2 ⟨⟨v, l, rfl, hF2, hl2⟩, ⟨k2, hS2⟩, hb2⟩; obtain ⟨A2, c2, rfl⟩ := own_sl hF2.out; have HB2 := hide (HB1.out.trans (hb2.be.mono hpw)); have HF2 := hide (hF2.low HB1.out.size); have HL2 := hide hl2; have HS2 := hide hS2; have s0 : w2.cell? ⟨p, 0, none⟩ = some (.slice (some ⟨w.heap.size, 0, none⟩) m c) := (block_cell HS2.out.box 0).trans rfl; clear hF2 hl2 hS2 hb2) | go_quiet (fail))
        refine bodyPost_ret (by simp [results, Tryz.results17, go_sem]; try rfl) rfl ?_
        exact ⟨⟨_, l, by rw [E.out] <;> rfl, HF2.out, by rw [E.out]; exact HL2.out⟩, HB2.out⟩
    · have E := hide (show Q = (R1, R2) by rw [hA, if_neg (fun h9 => h0 h9.1)])
      clear hA hlast hpos
      have h0' : ¬ (R2 : Int) = 0 := by omega
      have h0'' : ((R2 : Int) == 0) = false := by rw [beq_eq_false_iff_ne]; exact h0'
      go_enter Tryz.func17, Tryz.ntmps17
      go_wp2_with (first | (go_at_call 30; refine HNS.out.mono ?_; rintro e w1 ⟨p, c, rfl, hS1, hpw, hb1⟩; have HS1 := hide hS1; have HB1 := hide hb1; clear hS1 hb1) | (go_at_call 32; refine (HRD.out _ _ _ HS1.out).mono ?_; rintro e w2 ⟨⟨v, l, rfl, hF2, hl2⟩, ⟨k2, hS2⟩, hb2⟩; obtain ⟨A2, c2, rfl⟩ := own_sl hF2.out; have HB2 := hide (HB1.out.trans (hb2.be.mono hpw)); have HF2 := hide (hF2.low HB1.out.size); have HL2 := hide hl2; have HS2 := hide hS2; have s0 : w2.cell? ⟨p, 0, none⟩ = some (.slice (some ⟨w.heap.size, 0, none⟩) m c) := (block_cell HS2.out.box 0).trans rfl; clear hF2 hl2 hS2 hb2) | go_quiet (fail))
      refine bodyPost_ret (by simp [results, Tryz.results17, go_sem]; try rfl) rfl ?_
      exact ⟨⟨_, l, by rw [E.out] <;> rfl, HF2.out, by rw [E.out]; exact HL2.out⟩, HB2.out⟩
  · subst hf1
    rw [if_neg (by decide), if_neg (by decide)] at hR
    clear hf
    have hrd := fun W p c (H : Src p (some ⟨w.heap.size, 0, none⟩) m c (linL s) (linT s) 0 W) => readPairs_any H
    have hrd : ∀ W p c, Src p (some ⟨w.heap.size, 0, none⟩) m c (linL s) (linT s) 0 W → Calls Tryz.prog 33 #[.pointer (some ⟨p, 0, none⟩)] W fun e w' => RdOut W.heap.size (R1, R2) e w' ∧ (∃ k, Src p (some ⟨w.heap.size, 0, none⟩) m c (linL s) (linT s) k w') ∧ ButAt p W w' := fun W p c H => by
      have h9 := hrd W p c H
      rw [H.sl.len, ← hR] at h9
      exact h9
    have HRD := hide hrd
    clear hrd hR
    by_cases h0 : R2 = 0
    · subst h0
      have hsp := hpos rfl
      obtain ⟨q, hq⟩ : ∃ q, s.size = q + 1 := ⟨s.size - 1, by omega⟩
      have hlb := last_byte hq
      rw [hlb] at hlast
      have hlast := hlast hsp
      have hqs : q < s.size := by omega
      have hqi : ((s.size : Int) - 1).toNat = q := by omega
      have hq0 : (0 : Int) ≤ (s.size : Int) - 1 := by omega
      have hq1 : (s.size : Int) - 1 < (s.size : Int) := by omega
      cases he : emptyB (linT s)
      · have hA2 : Q = (R1, m + 1) := by rw [hA, if_pos ⟨rfl, he⟩]
        have hby : ¬ (s[q]'hqs).toNat = 10 := fun h9 => by
          have h8 : emptyB (linT s) = true := hlast.2 (by rw [show s[q] = (10 : UInt8) from UInt8.toNat_inj.1 h9])
          rw [he] at h8; cases h8
        have hby2 : ¬ ((s[q]'hqs).toNat : Int) = 10 := by omega
        have E := hide hA2
        obtain ⟨y, hy⟩ : ∃ y, (s[q]'hqs).toNat = y := ⟨_, rfl⟩
        have HQ := hide hq
        clear hA hA2 he hlast hlb hpos
        go_enter Tryz.func17, Tryz.ntmps17
        go_wp2_with (first | (go_at_call 30; refine HNS.out.mono ?_; rintro e w1 ⟨p, c, rfl, hS1, hpw, hb1⟩; have HS1 := hide hS1; have HB1 := hide hb1; clear hS1 hb1) | (go_at_call 33; refine (HRD.out _ _ _ HS1.out).mono ?_; rintro e w2 ⟨⟨v, l, rfl, hF2, hl2⟩, ⟨k2, hS2⟩, hb2⟩; obtain ⟨A2, c2, rfl⟩ := own_sl hF2.out; have HB2 := hide (HB1.out.trans (hb2.be.mono hpw)); have HF2 := hide (hF2.low HB1.out.size); have HL2 := hide hl2; have HS2 := hide hS2; have s0 : w2.cell? ⟨p, 0, none⟩ = some (.slice (some ⟨w.heap.size, 0, none⟩) m c) := (block_cell HS2.out.box 0).trans rfl; clear hF2 hl2 hS2 hb2) | go_quiet (fail))
        refine bodyPost_ret (by simp [results, Tryz.results17, go_sem]; try rfl) rfl ?_
        exact ⟨⟨_, l, by rw [E.out] <;> rfl, HF2.out, by rw [E.out]; exact HL2.out⟩, HB2.out⟩
      · have hA2 : Q = (R1, 0) := by rw [hA, if_neg (fun h9 => by rw [he] at h9; exact absurd h9.2 (by decide))]
        have hby : (s[q]'hqs).toNat = 10 := by
          have h8 := Option.some.inj (hlast.1 he)
          rw [h8]; rfl
        have hby2 : ((s[q]'hqs).toNat : Int) = 10 := by omega
        have E := hide hA2
        obtain ⟨y, hy⟩ : ∃ y, (s[q]'hqs).toNat = y := ⟨_, rfl⟩
        have HQ := hide hq
        clear hA hA2 he hlast hlb hpos
        go_enter Tryz.func17, Tryz.ntmps17
        go_wp2_with (first | (go_at_call 30; refine HNS.out.mono ?_; rintro e w1 ⟨p, c, rfl, hS1, hpw, hb1⟩; have HS1 := hide hS1; have HB1 := hide hb1; clear hS1 hb1) | (go_at_call 33; refine (HRD.out _ _ _ HS1.out).mono ?_; rintro e w2 ⟨⟨v, l, rfl, hF2, hl2⟩, ⟨k2, hS2⟩, hb2⟩; obtain ⟨A2, c2, rfl⟩ := own_sl hF2.out; have HB2 := hide (HB1.out.trans (hb2.be.mono hpw)); have HF2 := hide (hF2.low HB1.out.size); have HL2 := hide hl2; have HS2 := hide hS2; have s0 : w2.cell? ⟨p, 0, none⟩ = some (.slice (some ⟨w.heap.size, 0, none⟩) m c) := (block_cell HS2.out.box 0).trans rfl; clear hF2 hl2 hS2 hb2) | go_quiet (fail))
        refine bodyPost_ret (by simp [results, Tryz.results17, go_sem]; try rfl) rfl ?_
        exact ⟨⟨_, l, by rw [E.out] <;> rfl, HF2.out, by rw [E.out]; exact HL2.out⟩, HB2.out⟩
    · have E := hide (show Q = (R1, R2) by rw [hA, if_neg (fun h9 => h0 h9.1)])
      clear hA hlast hpos
      have h0' : ¬ (R2 : Int) = 0 := by omega
      have h0'' : ((R2 : Int) == 0) = false := by rw [beq_eq_false_iff_ne]; exact h0'
      go_enter Tryz.func17, Tryz.ntmps17
      go_wp2_with (first | (go_at_call 30; refine HNS.out.mono ?_; rintro e w1 ⟨p, c, rfl, hS1, hpw, hb1⟩; have HS1 := hide hS1; have HB1 := hide hb1; clear hS1 hb1) | (go_at_call 33; refine (HRD.out _ _ _ HS1.out).mono ?_; rintro e w2 ⟨⟨v, l, rfl, hF2, hl2⟩, ⟨k2, hS2⟩, hb2⟩; obtain ⟨A2, c2, rfl⟩ := own_sl hF2.out; have HB2 := hide (HB1.out.trans (hb2.be.mono hpw)); have HF2 := hide (hF2.low HB1.out.size); have HL2 := hide hl2; have HS2 := hide hS2; have s0 : w2.cell? ⟨p, 0, none⟩ = some (.slice (some ⟨w.heap.size, 0, none⟩) m c) := (block_cell HS2.out.box 0).trans rfl; clear hF2 hl2 hS2 hb2) | go_quiet (fail))
      refine bodyPost_ret (by simp [results, Tryz.results17, go_sem]; try rfl) rfl ?_
      exact ⟨⟨_, l, by rw [E.out] <;> rfl, HF2.out, by rw [E.out]; exact HL2.out⟩, HB2.out⟩
theorem Fts.sl {B : Nat} {w : World} {A : Option Addr} {n c : Nat} {l : List FaultT} (h : Fts B w (.slice A n c) l) : n = l.length ∧ Sl w w.heap.size FaultT.cs 3 A l.length l ∧ l.length ≤ maxLen := by
  obtain ⟨A', c', e, hsl, hlc, hc⟩ := sl_of_own FaultT.cs_len rfl h.out
  simp at e
  obtain ⟨rfl, rfl, rfl⟩ := e
  refine ⟨rfl, hsl, ?_⟩
  rcases hc with hc | hc
  · rw [hc]; exact Nat.zero_le _
  · omega
/-- What Read answers, in memory. -/
def RxOut (B : Nat) (X : List Flt × Nat × Int) (e : Ending) (w' : World) : Prop := ∃ v l, e = .returned (.tuple #[v, .int .i64 (X.2.1 : Nat), .int .i64 X.2.2]) ∧ Fts B w' v l ∧ l.map FaultT.flt = X.1
set_option maxRecDepth 100000 in
set_option maxHeartbeats 16000000 in
theorem Read_any (s : ByteArray) (form : Int) (w : World) (hm : Mx w) :
    Calls Tryz.prog 6 #[.string s, .int .i64 form] w fun e w' => RxOut w.heap.size (rdX s form) e w' ∧ Below w.heap.size w w' := by
  have hX : rdX s form = rdX s form := rfl
  conv at hX => rhs; unfold rdX
  obtain ⟨X, hXX⟩ : ∃ X, rdX s form = X := ⟨_, rfl⟩
  rw [hXX] at hX ⊢
  clear hXX
  by_cases h1 : 1000000 < s.size
  · have E := hide (show X = ([], 0, 4) by rw [hX, if_pos h1])
    have h1' : (1000000 : Int) < (s.size : Int) := by omega
    clear hX
    go_enter Tryz.func6, Tryz.ntmps6
    go_wp2_with (fail)
    refine bodyPost_ret (by simp [results, Tryz.results6, go_sem]; try rfl) rfl ?_
    exact ⟨⟨_, [], by rw [E.out] <;> rfl, Fts.nil _ _, by rw [E.out] <;> rfl⟩, Below.refl _ _⟩
  · rw [if_neg h1] at hX
    have h1' : ¬ (1000000 : Int) < (s.size : Int) := by omega
    have HO := hide (fun W => outside_any form 1 3 W)
    by_cases h2 : form < 1 ∨ 3 < form
    · have E := hide (show X = ([], 0, 10) by rw [hX, if_pos h2])
      have ho : outsideB form 1 3 = true := by unfold outsideB; simp; exact h2
      rw [ho] at HO
      clear hX
      go_enter Tryz.func6, Tryz.ntmps6
      go_wp2_with (go_at_call 10; refine (HO.out _).mono ?_; rintro e w1 ⟨rfl, rfl⟩)
      refine bodyPost_ret (by simp [results, Tryz.results6, go_sem]; try rfl) rfl ?_
      exact ⟨⟨_, [], by rw [E.out] <;> rfl, Fts.nil _ _, by rw [E.out] <;> rfl⟩, Below.refl _ _⟩
    · rw [if_neg h2] at hX
      have ho : outsideB form 1 3 = false := by unfold outsideB; simp; omega
      rw [ho] at HO
      have HRD := hide (read_any s form w (by omega) (by omega) hm)
      obtain ⟨Q, hQ⟩ : ∃ Q, rdA s form = Q := ⟨_, rfl⟩
      rw [hQ] at hX HRD
      clear hQ hm
      obtain ⟨Q1, Q2⟩ := Q
      simp only at hX
      by_cases h3 : 0 < Q2
      · have E := hide (show X = ([], Q2, 8) by rw [hX, if_pos h3])
        have h3' : (0 : Int) < (Q2 : Int) := by omega
        clear hX
        go_enter Tryz.func6, Tryz.ntmps6
        go_wp2_with (first | (go_at_call 10; refine (HO.out _).mono ?_; rintro e w1 ⟨rfl, rfl⟩) | (go_at_call 17; refine HRD.out.mono ?_; rintro e w2 ⟨⟨v, l, rfl, hF2, hl2⟩, hb2⟩; obtain ⟨A2, c2, rfl⟩ := own_sl hF2.out; have HB2 := hide hb2; clear hF2 hl2 hb2))
        refine bodyPost_ret (by simp [results, Tryz.results6, go_sem]; try rfl) rfl ?_
        exact ⟨⟨_, [], by rw [E.out] <;> rfl, Fts.nil _ _, by rw [E.out] <;> rfl⟩, HB2.out⟩
      · rw [if_neg h3] at hX
        obtain rfl : Q2 = 0 := by omega
        obtain ⟨l0, hl0⟩ : ∃ l0, Q1.getD [] = l0 := ⟨_, rfl⟩
        rw [hl0] at hX
        obtain ⟨er, her⟩ : ∃ er, errF l0 = er := ⟨_, rfl⟩
        rw [her] at hX
        have HER := hide her
        have HL0 := hide hl0
        clear her hl0
        by_cases h4 : er = 0
        · have E := hide (show X = (l0, 0, 0) by rw [hX, if_pos h4])
          have HE0 := hide h4
          clear hX h4
          go_enter Tryz.func6, Tryz.ntmps6
          go_wp2_with (first | (go_at_call 10; refine (HO.out _).mono ?_; rintro e w1 ⟨rfl, rfl⟩) | (go_at_call 17; refine HRD.out.mono ?_; rintro e w2 ⟨⟨v, l, rfl, hF2, hl2⟩, hb2⟩; obtain ⟨A2, c2, rfl⟩ := own_sl hF2.out; have HB2 := hide hb2; have HF2 := hide hF2; have HL2 := hide (hl2.trans HL0.out); clear hF2 hl2 hb2; have hck := fun cc => Check_any A2 l.length cc l w2 HF2.out.sl.2.2 HF2.out.sl.2.1 HF2.out.ok; rw [errF_map, HL2.out, HER.out, HE0.out] at hck; have HCK := hide hck; clear hck) | (go_at_call 9; refine (HCK.out _).mono ?_; rintro e w3 ⟨rfl, hb3⟩; have HF3 := hide (HF2.out.below hb3); have HB3 := hide (HB2.out.trans (hb3.mono HB2.out.size)); clear hb3))
          refine bodyPost_ret (by simp [results, Tryz.results6, go_sem]; try rfl) rfl ?_
          exact ⟨⟨_, l, by rw [E.out] <;> rfl, HF3.out, by rw [E.out]; exact HL2.out⟩, HB3.out⟩
        · have E := hide (show X = ([], 0, er) by rw [hX, if_neg h4])
          clear hX
          have h4' : (er == 0) = false := by rw [beq_eq_false_iff_ne]; exact h4
          go_enter Tryz.func6, Tryz.ntmps6
          go_wp2_with (first | (go_at_call 10; refine (HO.out _).mono ?_; rintro e w1 ⟨rfl, rfl⟩) | (go_at_call 17; refine HRD.out.mono ?_; rintro e w2 ⟨⟨v, l, rfl, hF2, hl2⟩, hb2⟩; obtain ⟨A2, c2, rfl⟩ := own_sl hF2.out; have HB2 := hide hb2; have HF2 := hide hF2; have HL2 := hide (hl2.trans HL0.out); clear hF2 hl2 hb2; have hck := fun cc => Check_any A2 l.length cc l w2 HF2.out.sl.2.2 HF2.out.sl.2.1 HF2.out.ok; rw [errF_map, HL2.out, HER.out] at hck; have HCK := hide hck; clear hck) | (go_at_call 9; refine (HCK.out _).mono ?_; rintro e w3 ⟨rfl, hb3⟩; have HB3 := hide (HB2.out.trans (hb3.mono HB2.out.size)); clear hb3))
          refine bodyPost_ret (by simp [results, Tryz.results6, go_sem]; try rfl) rfl ?_
          exact ⟨⟨_, [], by rw [E.out] <;> rfl, Fts.nil _ _, by rw [E.out] <;> rfl⟩, HB3.out⟩
/-- The form that is guessed. -/
def guR (s : ByteArray) : Nat → Int
  | 0 => 0
  | r + 1 => if (rdX s ((3 : Int) - (r : Int))).2.2 = 0 then (3 : Int) - (r : Int) else guR s r
set_option maxRecDepth 100000 in
set_option maxHeartbeats 16000000 in
theorem Guess_any (s : ByteArray) (w : World) (hm : Mx w) :
    Calls Tryz.prog 8 #[.string s] w fun e w' => e = .returned (.int .i64 (guR s 3)) ∧ Below w.heap.size w w' := by
  have HM := hide hm
  obtain ⟨G, hG⟩ : ∃ G, guR s 3 = G := ⟨_, rfl⟩
  have HG := hide hG
  rw [hG]
  clear hG hm
  have i0 : ∀ w, (Instr.index 52 (.agg #[.int .i64 1, .int .i64 2, .int .i64 3]) (.int .i64 0)).run Tryz.prog w = .ok (.int .i64 1) w := fun _ => by kernel_rfl
  have i1 : ∀ w, (Instr.index 52 (.agg #[.int .i64 1, .int .i64 2, .int .i64 3]) (.int .i64 1)).run Tryz.prog w = .ok (.int .i64 2) w := fun _ => by kernel_rfl
  have i2 : ∀ w, (Instr.index 52 (.agg #[.int .i64 1, .int .i64 2, .int .i64 3]) (.int .i64 2)).run Tryz.prog w = .ok (.int .i64 3) w := fun _ => by kernel_rfl
  go_enter Tryz.func8, Tryz.ntmps8
  go_wp2_with (fail)
  go_loopw [11] (fun i wr => ∃ j : Nat, j ≤ 3 ∧ i = .int .i64 ((j : Int)) ∧ Below w.heap.size w wr ∧ guR s (3 - j) = G) (fun i _ => 4 - (intOf i).toNat)
  case atStart => exact ⟨0, by omega, rfl, by first | exact Below.refl _ _ | exact (Below.refl _ _).alloc (Nat.le_refl _) _, HG.out⟩
  case round =>
    obtain ⟨j, hj, rfl, hB, hg⟩ := hrel
    have HB := hide hB
    have HGJ := hide hg
    have hz := hB.size
    clear hB hg
    have hjj : j = 0 ∨ j = 1 ∨ j = 2 ∨ j = 3 := by omega
    rcases hjj with rfl | rfl | rfl | rfl
    · have hg : guR s 3 = if (rdX s 1).2.2 = 0 then 1 else guR s 2 := by rw [guR]; rfl
      have HRD := hide (Read_any s 1 wr (HM.out.up HB.out (Nat.le_refl _)))
      obtain ⟨X, hX⟩ : ∃ X, rdX s 1 = X := ⟨_, rfl⟩
      rw [hX] at hg HRD
      clear hX
      obtain ⟨X1, X2, er⟩ := X
      simp only at hg
      by_cases h0 : er = 0
      · have E := hide (show G = 1 by rw [← HGJ.out]; exact hg.trans (if_pos h0))
        subst h0
        clear hg
        go_wp2_with (go_at_call 6; refine HRD.out.mono ?_; rintro e w2 ⟨⟨v, l, rfl, hF2, hl2⟩, hb2⟩; obtain ⟨A2, c2, rfl⟩ := own_sl hF2.out; have HB2 := hide (HB.out.trans (hb2.mono HB.out.size)); clear hF2 hl2 hb2)
        go_ret
        exact ⟨by rw [E.out] <;> rfl, HB2.out⟩
      · have E := hide (show guR s 2 = G by rw [← HGJ.out]; exact (hg.trans (if_neg h0)).symm)
        have h0' : (er == 0) = false := by rw [beq_eq_false_iff_ne]; exact h0
        clear hg
        go_wp2_with (go_at_call 6; refine HRD.out.mono ?_; rintro e w2 ⟨⟨v, l, rfl, hF2, hl2⟩, hb2⟩; obtain ⟨A2, c2, rfl⟩ := own_sl hF2.out; have HB2 := hide (HB.out.trans (hb2.mono HB.out.size)); clear hF2 hl2 hb2)
        go_roundw
        case rel => exact ⟨1, by omega, rfl, HB2.out, E.out⟩
        case measure => simp [intOf]
    · have hg : guR s 2 = if (rdX s 2).2.2 = 0 then 2 else guR s 1 := by rw [guR]; rfl
      have HRD := hide (Read_any s 2 wr (HM.out.up HB.out (Nat.le_refl _)))
      obtain ⟨X, hX⟩ : ∃ X, rdX s 2 = X := ⟨_, rfl⟩
      rw [hX] at hg HRD
      clear hX
      obtain ⟨X1, X2, er⟩ := X
      simp only at hg
      by_cases h0 : er = 0
      · have E := hide (show G = 2 by rw [← HGJ.out]; exact hg.trans (if_pos h0))
        subst h0
        clear hg
        go_wp2_with (go_at_call 6; refine HRD.out.mono ?_; rintro e w2 ⟨⟨v, l, rfl, hF2, hl2⟩, hb2⟩; obtain ⟨A2, c2, rfl⟩ := own_sl hF2.out; have HB2 := hide (HB.out.trans (hb2.mono HB.out.size)); clear hF2 hl2 hb2)
        go_ret
        exact ⟨by rw [E.out] <;> rfl, HB2.out⟩
      · have E := hide (show guR s 1 = G by rw [← HGJ.out]; exact (hg.trans (if_neg h0)).symm)
        have h0' : (er == 0) = false := by rw [beq_eq_false_iff_ne]; exact h0
        clear hg
        go_wp2_with (go_at_call 6; refine HRD.out.mono ?_; rintro e w2 ⟨⟨v, l, rfl, hF2, hl2⟩, hb2⟩; obtain ⟨A2, c2, rfl⟩ := own_sl hF2.out; have HB2 := hide (HB.out.trans (hb2.mono HB.out.size)); clear hF2 hl2 hb2)
        go_roundw
        case rel => exact ⟨2, by omega, rfl, HB2.out, E.out⟩
        case measure => simp [intOf]
    · have hg : guR s 1 = if (rdX s 3).2.2 = 0 then 3 else guR s 0 := by rw [guR]; rfl
      have HRD := hide (Read_any s 3 wr (HM.out.up HB.out (Nat.le_refl _)))
      obtain ⟨X, hX⟩ : ∃ X, rdX s 3 = X := ⟨_, rfl⟩
      rw [hX] at hg HRD
      clear hX
      obtain ⟨X1, X2, er⟩ := X
      simp only at hg
      by_cases h0 : er = 0
      · have E := hide (show G = 3 by rw [← HGJ.out]; exact hg.trans (if_pos h0))
        subst h0
        clear hg
        go_wp2_with (go_at_call 6; refine HRD.out.mono ?_; rintro e w2 ⟨⟨v, l, rfl, hF2, hl2⟩, hb2⟩; obtain ⟨A2, c2, rfl⟩ := own_sl hF2.out; have HB2 := hide (HB.out.trans (hb2.mono HB.out.size)); clear hF2 hl2 hb2)
        go_ret
        exact ⟨by rw [E.out] <;> rfl, HB2.out⟩
      · have E := hide (show guR s 0 = G by rw [← HGJ.out]; exact (hg.trans (if_neg h0)).symm)
        have h0' : (er == 0) = false := by rw [beq_eq_false_iff_ne]; exact h0
        clear hg
        go_wp2_with (go_at_call 6; refine HRD.out.mono ?_; rintro e w2 ⟨⟨v, l, rfl, hF2, hl2⟩, hb2⟩; obtain ⟨A2, c2, rfl⟩ := own_sl hF2.out; have HB2 := hide (HB.out.trans (hb2.mono HB.out.size)); clear hF2 hl2 hb2)
        go_roundw
        case rel => exact ⟨3, by omega, rfl, HB2.out, E.out⟩
        case measure => simp [intOf]
    · have E := hide (show G = 0 by rw [← HGJ.out]; rfl)
      go_wp2_with (fail)
      go_ret
      exact ⟨by rw [E.out] <;> rfl, HB.out⟩
end Go.Proofs.YtncpeokniffafaaGreatDoor
