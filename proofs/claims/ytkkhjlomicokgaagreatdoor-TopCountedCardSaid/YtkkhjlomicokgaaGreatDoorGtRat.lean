/- Rates of the program's gate: the map of rates. -/
import Derived.Test.YtkkhjlomicokgaaGreatDoorGtLim
import Derived.Test.YtkkhjlomicokgaaGreatDoorTpA
namespace Go.Proofs.YtkkhjlomicokgaaGreatDoor
open Go.RowKit Go.Maps
set_option linter.unusedVariables false
set_option linter.unusedSimpArgs false
def getR (k : ByteArray) (l : List RtK) : Int := l.foldl (fun v x => if x.key = k then x.keep else v) 0
def hasR (k : ByteArray) (l : List RtK) : Bool := l.any fun x => decide (x.key = k)
structure MapR (D : DataW Unit) (l : List RtK) : Prop where
  map : IsMap D
  at_ : ∀ k : ByteArray, D.atKey (.string k.data.toList) (.lit (.int .i64 0)) = .lit (.int .i64 (getR k l))
  has : ∀ k : ByteArray, Maps.has D (.string k.data.toList) = hasR k l
theorem MapR.empty : MapR (.map []) [] := ⟨isMap_empty, fun _ => rfl, fun _ => rfl⟩
theorem ba_ext {a b : ByteArray} (h : a.data.toList = b.data.toList) : a = b := by
  obtain ⟨⟨l⟩⟩ := a
  obtain ⟨⟨m⟩⟩ := b
  simp at h
  rw [h]
theorem MapR.snoc {D : DataW Unit} {l : List RtK} (h : MapR D l) (x : RtK) : MapR (D.put (.string x.key.data.toList) (.lit (.int .i64 x.keep))) (l ++ [x]) := by
  refine ⟨h.map.put _ _, fun k => ?_, fun k => ?_⟩
  · unfold getR
    rw [List.foldl_append]
    show _ = DataW.lit (.int .i64 (if x.key = k then x.keep else getR k l))
    by_cases e : x.key = k
    · subst e
      rw [if_pos rfl, atKey_put_same h.map (show WideAt.IsKeyLit (Lit.string _) from trivial)]
    · rw [if_neg e, atKey_put_other (by intro e2; injection e2 with e2; exact e (ba_ext e2).symm)]
      exact h.at_ k
  · unfold hasR
    rw [List.any_append]
    show _ = (hasR k l || _)
    by_cases e : x.key = k
    · subst e
      rw [has_put_same h.map (show WideAt.IsKeyLit (Lit.string _) from trivial)]
      simp
    · rw [has_put_other (by intro e2; injection e2 with e2; exact e (ba_ext e2).symm), h.has]
      simp [e]
theorem wf_of {y : Int} (h0 : -9000000000000000000 ≤ y) (h1 : y ≤ 9000000000000000000) : (Lit.int .i64 y).wf = true := by
  have e1 : IntKind.i64.min = -9223372036854775808 := rfl
  have e2 : IntKind.i64.max = 9223372036854775807 := rfl
  simp [Lit.wf, e1, e2]
  omega
theorem rt_keep {l : List RtK} (h : rtErr l = 0) {k : Nat} {x : RtK} (hx : l[k]? = some x) : 0 ≤ x.keep ∧ x.keep ≤ 1000000 := by
  unfold rtErr at h
  split at h
  · cases h
  · have h1 := firstErr_all h k (List.getElem?_eq_some_iff.1 hx).1
    unfold rtErrAt at h1
    rw [hx] at h1
    dsimp only at h1
    split at h1
    · split at h1
      · cases h1
      · split at h1
        · cases h1
        · rename_i h2
          simp [outsideB] at h2
          omega
    · rename_i h2; exact absurd h1 h2
set_option maxRecDepth 100000 in
set_option maxHeartbeats 8000000 in
theorem Rates_ok (p B n cap : Nat) (A : Option Addr) (l : List RtK) (v0 v1 v2 v3 v4 : Value) (w : World) (hn : n ≤ maxLen) (hl : Sl w w.heap.size RtK.cs 2 A n l) (hf : RkFit l)
    (hb : w.heap[p]? = some (.cells #[v0, v1, v2, v3, v4] 72 (0, 0))) (hB : B ≤ p) (hAp : 0 < n → ∀ b o, A = some ⟨b, o, none⟩ → b ≠ p) :
    Calls Tryz.prog 18 #[.pointer (some ⟨p, 0, none⟩), .slice A n cap] w fun e w' => e = .returned (.int .i64 (rtErr l)) ∧
      (rtErr l ≠ 0 → Below w.heap.size w w') ∧ (rtErr l = 0 → ∃ b D m, w.heap.size ≤ b ∧ w'.heap[p]? = some (.cells #[v0, v1, .map (some b), v3, v4] 72 (0, 0)) ∧ w'.ownsMap Tryz.prog 9 (plainElem Tryz.prog 3) b m D ∧ MapR D l ∧ m ≤ 200 ∧ Keep B (fun k => k = p) w w') := by
  have hp := lt_of_block hb
  have C := hide (checkRates_any A n cap l w hn hl hf)
  have hlen := hl.len
  have HL := hide hl
  have HF := hide hf
  have HBX := hide hb
  by_cases he : rtErr l = 0
  · rw [he] at C ⊢
    have h200 : l.length ≤ 200 := by
      by_cases h : 200 < l.length
      · rw [rtErr, if_pos h] at he; cases he
      · omega
    have hmm := @run_makeMap Tryz.prog
    have HE := hide he
    clear he hb hl hf
    go_enter Tryz.func18, Tryz.ntmps18
    go_wp2_with (fail)
    refine C.out.mono ?_
    rintro e w1 ⟨rfl, hw1⟩
    have H1 := hide (block_below HBX.out hw1)
    have hp1 := lt_of_block H1.out
    have c1 : w1.cell? ⟨p, 2, none⟩ = some v2 := (block_cell H1.out 2).trans rfl
    have f1 : w1.frozen? ⟨p, 2, none⟩ = false := block_free H1.out 2
    have HW1 := hide hw1
    have hz1 := hw1.size
    clear hw1 C
    go_wp2_with (fail)
    clear hmm
    go_loopw [19] (fun i wr => ∃ (k : Nat) (D : DataW Unit), i = .int .i64 (k : Int) ∧ k ≤ n ∧ wr.heap[p]? = some (.cells #[v0, v1, .map (some w1.heap.size), v3, v4] 72 (0, 0)) ∧ wr.ownsMap Tryz.prog 9 (plainElem Tryz.prog 3) w1.heap.size k D ∧ MapR D (l.take k) ∧ Keep B (fun k => k = p) w wr)
      (fun i _ => n - (intOf i).toNat)
    case atStart =>
      refine ⟨0, .map [], rfl, Nat.zero_le _, ?_, ?_, MapR.empty, ?_⟩
      · exact block_below ((block_set H1.out _).trans rfl) ((Below.refl _ _).alloc (Nat.le_refl _) _)
      · have h := World.ownsMap_made (H := Unit) (w1.setCell ⟨p, 2, none⟩ (.map (some w1.heap.size))) Tryz.prog 9 (plainElem Tryz.prog 3)
        rw [World.size_setCell] at h
        exact h
      · have h1 : Keep B (fun k => k = p) w1 (w1.setCell ⟨p, 2, none⟩ (.map (some w1.heap.size))) := Keep.set _ _ _ hB rfl
        exact (Keep.of_below HW1.out (by omega)).trans (h1.trans (Keep.of_below ((Below.refl _ _).alloc (Nat.le_refl _) _) (by rw [World.size_setCell]; omega)))
    case round =>
      obtain ⟨k, D, rfl, hk, hbx, hM, hR, hK⟩ := hrel
      have hzr := Nat.le_trans hz1 (show w1.heap.size ≤ wr.heap.size by have := hM.lt; omega)
      have hKW : Stay (fun k => k ≠ p) w wr := fun k o h u => hK.keep k o h u
      by_cases hlt : k < n
      · have hki : (k : Int) < (n : Int) := by omega
        obtain ⟨bb, oo, x, rfl, hbb, hx, hc⟩ := (HL.out.stay hKW (fun h0 b o e => hAp h0 b o e)).at_ hlt
        have d0 := hc 0 _ rfl
        have d1 := hc 1 _ rfl
        simp only [Nat.add_zero] at d0
        obtain ⟨k0, k1⟩ := rt_keep HE.out hx
        have hkf := HF.out x (List.mem_of_getElem? hx)
        have HTK := hide (take_succ_get hx)
        have hbl := hM.lt
        have hpl := lt_of_block hbx
        have HV := hide (plainElem_int (H := Unit) Tryz.underlying3 (wf_of (y := x.keep) (by omega) (by omega)))
        have HM := hide hM
        have HR := hide hR
        have HK := hide hK
        obtain ⟨wb, hwb⟩ : ∃ wb, wr.alloc (.cells #[.string x.key, .int .i64 x.keep] 128) = wb := ⟨_, rfl⟩
        have hnb : wb.heap[wr.heap.size]? = some (.cells #[.string x.key, .int .i64 x.keep] 128 (0, 0)) := hwb ▸ heap_alloc_new wr _
        have hbb2 : Below wr.heap.size wr wb := hwb ▸ (Below.refl _ _).alloc (Nat.le_refl _) _
        have HBX2 := hide (block_below hbx hbb2)
        have HMB := hide (hM.kept (grown_of_below hbb2) (by simp))
        have HBB := hide hbb2
        have HNB := hide hnb
        have hS : (fun W' => W'.cell? ⟨p, 2, none⟩ = some (.map (some w1.heap.size)) ∧ W'.cell? ⟨wr.heap.size, 0, none⟩ = some (.string x.key) ∧ W'.cell? ⟨wr.heap.size, 1, none⟩ = some (.int .i64 x.keep)) wb.drew := ⟨(block_cell HBX2.out 2).trans rfl, (block_cell hnb 0).trans rfl, (block_cell hnb 1).trans rfl⟩
        have HSS := hide hS
        clear hbx hM hR hK hKW hc hx hnb hbb2 hS
        go_wp2_with (fail)
        (try rw [hwb])
        refine wp_region_chain (fun W' => W'.cell? ⟨p, 2, none⟩ = some (.map (some w1.heap.size)) ∧ W'.cell? ⟨wr.heap.size, 0, none⟩ = some (.string x.key) ∧ W'.cell? ⟨wr.heap.size, 1, none⟩ = some (.int .i64 x.keep)) 8 (by as_aux_lemma => kernel_rfl) (N := 9) (by as_aux_lemma => kernel_rfl) ?_; intro hsh
        have HS := HSS.out
        refine wpAnyC_take0 (i := 0) (k := 8) (v := ?_) (d := some 23) rfl (by rfl) (by as_aux_lemma => kernel_rfl) (by as_aux_lemma => kernel_rfl) (by as_aux_lemma => kernel_rfl) hsh (by decide) (by intro _ _ _ h; exact h) (by assumption) (Or.inl ⟨by rfl, ?hy⟩) ?_; (case hy => (intro W _; go_simp; (try with_reducible rfl))); clear hsh; intro hsh
        refine wpAnyC_take0 (i := 1) (k := 8) (v := ?_) (d := some 24) rfl (by rfl) (by as_aux_lemma => kernel_rfl) (by as_aux_lemma => kernel_rfl) (by as_aux_lemma => kernel_rfl) hsh (by decide) (by intro _ _ _ h; exact h) (by assumption) (Or.inl ⟨by rfl, ?hy⟩) ?_; (case hy => (intro W _; go_simp; (try with_reducible rfl))); clear hsh; intro hsh
        refine wpAnyC_take0 (i := 2) (k := 8) (v := ?_) (d := some 25) rfl (by rfl) (by as_aux_lemma => kernel_rfl) (by as_aux_lemma => kernel_rfl) (by as_aux_lemma => kernel_rfl) hsh (by decide) (by intro _ _ _ h; exact h) (by assumption) (Or.inl ⟨by rfl, ?hy⟩) ?_; (case hy => (intro W _; go_simp; (try with_reducible rfl))); clear hsh; intro hsh
        refine wpAnyC_take (i := 3) (k := 8) (f := 40) (v := ?_) (d := some 26) rfl (by rfl) (by as_aux_lemma => kernel_rfl) (by as_aux_lemma => kernel_rfl) (by as_aux_lemma => kernel_rfl) hsh (by decide) (by as_aux_lemma => kernel_rfl) (by intro _ _ _ h; exact h) (by assumption) (Or.inl ⟨by rfl, ?hy⟩) ?_; (case hy => (rintro W ⟨c0, c1, c2⟩; go_simp; (try with_reducible rfl))); clear hsh; intro hsh
        refine wpAnyC_take0 (i := 4) (k := 8) (v := ?_) (d := some 27) rfl (by rfl) (by as_aux_lemma => kernel_rfl) (by as_aux_lemma => kernel_rfl) (by as_aux_lemma => kernel_rfl) hsh (by decide) (by intro _ _ _ h; exact h) (by assumption) (Or.inl ⟨by rfl, ?hy⟩) ?_; (case hy => (intro W _; go_simp; (try with_reducible rfl))); clear hsh; intro hsh
        refine wpAnyC_take (i := 5) (k := 8) (f := 40) (v := ?_) (d := some 28) rfl (by rfl) (by as_aux_lemma => kernel_rfl) (by as_aux_lemma => kernel_rfl) (by as_aux_lemma => kernel_rfl) hsh (by decide) (by as_aux_lemma => kernel_rfl) (by intro _ _ _ h; exact h) (by assumption) (Or.inl ⟨by rfl, ?hy⟩) ?_; (case hy => (rintro W ⟨c0, c1, c2⟩; go_simp; (try with_reducible rfl))); clear hsh; intro hsh
        refine wpAnyC_take0 (i := 6) (k := 8) (v := ?_) (d := some 29) rfl (by rfl) (by as_aux_lemma => kernel_rfl) (by as_aux_lemma => kernel_rfl) (by as_aux_lemma => kernel_rfl) hsh (by decide) (by intro _ _ _ h; exact h) (by assumption) (Or.inl ⟨by rfl, ?hy⟩) ?_; (case hy => (intro W _; go_simp; (try with_reducible rfl))); clear hsh; intro hsh
        refine wpAnyC_take (i := 7) (k := 8) (f := 40) (v := ?_) (d := some 30) rfl (by rfl) (by as_aux_lemma => kernel_rfl) (by as_aux_lemma => kernel_rfl) (by as_aux_lemma => kernel_rfl) hsh (by decide) (by as_aux_lemma => kernel_rfl) (by intro _ _ _ h; exact h) (by assumption) (Or.inl ⟨by rfl, ?hy⟩) ?_; (case hy => (rintro W ⟨c0, c1, c2⟩; go_simp; (try with_reducible rfl))); clear hsh; intro hsh
        refine wpAnyC_tail (by as_aux_lemma => kernel_rfl) (by simp) (by as_aux_lemma => kernel_rfl) ?_; simp only [List.drop_succ_cons, List.drop_zero]; clear hsh
        go_wp2_with (first | (at_mapUpdate; refine wpList_mapUpdate_own _ rfl (.tmp 26) (.tmp 28) (.tmp 30) 70 rfl 9 3 law_str Tryz.underlying70 _ w1.heap.size k D (by go_simp) HMB.out.drew (by unfold maxLen; omega) (.string x.key) (.int .i64 x.keep) _ (by go_simp) (by go_simp) (key_of _ hkf) _ [] HV.out ?_; intro w9 hown9 hg9))
        have hs9 := HBB.out.size
        go_roundw
        case rel =>
          refine ⟨k + 1, _, by go_num, by omega, ?_, hown9, ?_, ?_⟩
          · exact (hg9.block p (lt_of_block HBX2.out) (fun e => by simp at e; omega)).trans HBX2.out
          · rw [HTK.out]; exact HR.out.snoc x
          · have hbe : Below B wb w9 := (below_drewN (Below.refl B wb) 1).grown hg9 (by show B ≤ wb.heap.size; omega) (fun j hj => by cases hj; omega)
            refine ⟨(HK.out.be.trans (HBB.out.mono (by omega))).trans hbe, fun k' o e ne => ?_⟩
            have hl := lt_of_block e
            have e2 := block_below (HK.out.keep k' o e ne) HBB.out
            exact (hg9.block k' (lt_of_block e2) (fun e => by simp at e; omega)).trans e2
        case measure => simp [intOf]; omega
      · have hki : ¬ (k : Int) < (n : Int) := by omega
        obtain rfl : n = k := by omega
        have HTK := hide (take_len l (Nat.le_of_eq hlen))
        go_wp2_with (fail)
        go_ret
        have HTK' := HTK.out
        rw [HTK'] at hR
        exact ⟨rfl, _, hz1, hbx, D, _, hM, hR, by omega, hK⟩
  · have hne : (rtErr l == 0) = false := by simpa using he
    clear hb hl hf
    go_enter Tryz.func18, Tryz.ntmps18
    go_wp2_with (first | (go_at_call 47; refine C.out.mono ?_; rintro e w1 ⟨rfl, hw1⟩))
    go_ret
    exact ⟨rfl, fun _ => hw1, fun h => absurd h he⟩
end Go.Proofs.YtkkhjlomicokgaaGreatDoor
