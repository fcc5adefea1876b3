/- StSame, StMx, StRfR, StackReads: texts of one's own, in one file. -/
import Derived.Test.YtkjpojaanocfjaaGreatDoorStFault
import Derived.Test.YtkjpojaanocfjaaGreatDoorStEqB
import Derived.BigQuiet
import Derived.Test.YtkjpojaanocfjaaGreatDoorStReC
import Derived.Shelf.Vars
import Derived.Test.YtkjpojaanocfjaaGreatDoorStRfI
/- Walks of Same and SameFaults: the closures, slices.EqualFunc (printed by gen_sm.py). -/
namespace Go.Proofs.YtkjpojaanocfjaaGreatDoor
open Go.RowKit
set_option linter.unusedVariables false
/-- Whether two faults read alike. -/
def fltEq (x y : FaultT) : Bool := decide (x.kind = y.kind) && (decide (x.text = y.text) && decide (x.frs = y.frs))
def fltsEq (a b : List FaultT) : Bool := decide (a.length = b.length) && (a.zip b).all fun p => fltEq p.1 p.2
theorem fltEq_refl (x : FaultT) : fltEq x x = true := by simp [fltEq]
theorem zip_refl (l : List FaultT) : ((l.zip l).all fun p => fltEq p.1 p.2) = true := by
  induction l with
  | nil => rfl
  | cons x l ih => rw [List.zip_cons_cons, List.all_cons, ih, fltEq_refl]; rfl
theorem fltsEq_refl (l : List FaultT) : fltsEq l l = true := by rw [fltsEq, zip_refl]; simp
theorem zip_take_succ {a b : List FaultT} {k : Nat} {x y : FaultT} (hx : a[k]? = some x) (hy : b[k]? = some y) : (a.take (k + 1)).zip (b.take (k + 1)) = (a.take k).zip (b.take k) ++ [(x, y)] := by
  have h1 : k < a.length := (List.getElem?_eq_some_iff.1 hx).1
  have h2 : k < b.length := (List.getElem?_eq_some_iff.1 hy).1
  rw [take_succ_get hx, take_succ_get hy, List.zip_append (by simp; omega)]
  rfl
theorem fltsEq_false {a b : List FaultT} {k : Nat} {x y : FaultT} (hx : a[k]? = some x) (hy : b[k]? = some y) (h : fltEq x y = false) : fltsEq a b = false := by
  rw [fltsEq, Bool.and_eq_false_iff]
  right
  rw [List.all_eq_false]
  refine ⟨(x, y), ?_, by simp [h]⟩
  rw [List.mem_iff_getElem?]
  exact ⟨k, by rw [List.getElem?_zip_eq_some]; exact ⟨hx, hy⟩⟩
set_option maxRecDepth 100000 in
set_option maxHeartbeats 2000000 in
theorem clo2_any (x y : FaultT) (w : World) (hx : x.ok w) (hy : y.ok w) :
    Calls Tryz.prog 19 #[.agg #[.string x.kind, .string x.text, .slice x.A x.n x.cap], .agg #[.string y.kind, .string y.text, .slice y.A y.n y.cap]] w fun e w' => e = .returned (.bool (fltEq x y)) ∧ Below w.heap.size w w' := by
  have hxn := hx.nl
  have hyn := hy.nl
  have hxs := hide hx.sl
  have hys := hide hy.sl
  clear hx hy
  have b0 := bytes_beq x.kind y.kind
  have b1 := bytes_beq x.text y.text
  by_cases h0 : x.kind = y.kind
  · have h0' : (x.kind.toList == y.kind.toList) = true := by rw [b0]; simpa using h0
    by_cases h1 : x.text = y.text
    · have h1' : (x.text.toList == y.text.toList) = true := by rw [b1]; simpa using h1
      have E := hide (show fltEq x y = decide (x.frs = y.frs) by rw [fltEq, decide_eq_true h0, decide_eq_true h1]; rfl)
      clear h0 h1 b0 b1
      go_enter Tryz.func19, Tryz.ntmps19
      go_wp2_with (go_at_call 20; refine (Equal_any _ _ _ _ _ _ _ _ _ hxn hyn (hxs.out.up (by go_grown)) (hys.out.up (by go_grown))).mono ?_; rintro r w1 ⟨rfl, hw1⟩; have hB1 : Below w.heap.size w w1 := (((Below.refl _ _).alloc (Nat.le_refl _) _).alloc (by simp) _).trans (hw1.mono (by simp; omega)))
      go_ret
      exact ⟨by rw [E.out]; rfl, hB1⟩
    · have h1' : (x.text.toList == y.text.toList) = false := by rw [b1]; simpa using h1
      have E := hide (show fltEq x y = false by rw [fltEq, decide_eq_false h1]; simp)
      clear h0 h1 b0 b1
      go_enter Tryz.func19, Tryz.ntmps19
      go_wp2_with (fail)
      go_ret
      exact ⟨by rw [E.out]; rfl, by go_grown⟩
  · have h0' : (x.kind.toList == y.kind.toList) = false := by rw [b0]; simpa using h0
    have E := hide (show fltEq x y = false by rw [fltEq, decide_eq_false h0]; simp)
    clear h0 b0 b1
    go_enter Tryz.func19, Tryz.ntmps19
    go_wp2_with (fail)
    go_ret
    exact ⟨by rw [E.out]; rfl, by go_grown⟩
set_option maxRecDepth 100000 in
set_option maxHeartbeats 4000000 in
theorem EqualFunc2_any (A : Option Addr) (n c : Nat) (A' : Option Addr) (n' c' : Nat) (l l' : List FaultT) (w : World) (hn : n ≤ maxLen) (hn' : n' ≤ maxLen) (hl : Sl w w.heap.size FaultT.cs 3 A n l) (hl' : Sl w w.heap.size FaultT.cs 3 A' n' l') (hf : FaultsOk w l) (hf' : FaultsOk w l') :
    Calls Tryz.prog 18 #[.slice A n c, .slice A' n' c', .func (.func 19) #[] #[]] w fun e w' => e = .returned (.bool (fltsEq l l')) ∧ Below w.heap.size w w' := by
  unfold maxLen at hn hn'
  by_cases hnn : n = n'
  · subst hnn
    clear hn'
    have HL := hide hl.len
    have HL' := hide hl'.len
    go_enter Tryz.func18, Tryz.ntmps18
    go_wp2_with (fail)
    go_loopw [17] (fun i wr => ∃ j : Nat, j ≤ n ∧ i = .int .i64 j ∧ ((l.take j).zip (l'.take j)).all (fun p => fltEq p.1 p.2) = true ∧ Below w.heap.size w wr) (fun i _ => n - (intOf i).toNat)
    case atStart => exact ⟨0, Nat.zero_le _, rfl, by simp, Below.refl _ _⟩
    case round =>
      obtain ⟨j, hj, rfl, hall, hB⟩ := hrel
      have HALL := hide hall
      clear hall
      have hz := hB.size
      by_cases hlt : j < n
      · obtain ⟨bb, oo, x, rfl, hbb, hx, hc⟩ := (hl.below hB).at_ hlt
        obtain ⟨bb', oo', x', rfl, hbb', hx', hc'⟩ := (hl'.below hB).at_ hlt
        have c0 := hc 0 _ rfl
        have c1 := hc 1 _ rfl
        have c2 := hc 2 _ rfl
        have d0 := hc' 0 _ rfl
        have d1 := hc' 1 _ rfl
        have d2 := hc' 2 _ rfl
        simp only [Nat.add_zero] at c0 d0
        have HX := hide hx
        have HX' := hide hx'
        have HXO := hide ((hf x (List.mem_of_getElem? hx)).up hB)
        have HXO' := hide ((hf' x' (List.mem_of_getElem? hx')).up hB)
        have HG : Hid (∀ o o' : Obj, Below wr.heap.size wr ((wr.alloc o).alloc o')) := hide fun o o' => ((Below.refl _ _).alloc (Nat.le_refl _) _).alloc (by simp) _
        have CW := hide (fun W h h' => clo2_any x x' W h h')
        clear hc hc' hx hx'
        obtain ⟨e, he⟩ : ∃ e, fltEq x x' = e := ⟨_, rfl⟩
        rw [he] at CW
        have HE := hide he
        clear he
        cases e
        · have E := hide (fltsEq_false HX.out HX'.out HE.out)
          go_wp2_with (go_at_call 19; refine (CW.out _ (HXO.out.up (HG.out _ _)) (HXO'.out.up (HG.out _ _))).mono ?_; rintro r w1 ⟨rfl, hw1⟩; have hB1 : Below w.heap.size w w1 := hB.trans (((HG.out _ _).trans (hw1.mono (by simp; omega))).mono hz))
          go_ret
          exact ⟨by rw [E.out]; rfl, hB1⟩
        · go_wp2_with (go_at_call 19; refine (CW.out _ (HXO.out.up (HG.out _ _)) (HXO'.out.up (HG.out _ _))).mono ?_; rintro r w1 ⟨rfl, hw1⟩; have hB1 : Below w.heap.size w w1 := hB.trans (((HG.out _ _).trans (hw1.mono (by simp; omega))).mono hz))
          go_roundw
          case rel => exact ⟨j + 1, by omega, by go_num, by rw [zip_take_succ HX.out HX'.out, List.all_append, HALL.out]; simpa using HE.out, hB1⟩
          case measure => simp [intOf]; omega
      · have E := hide (show fltsEq l l' = true by have h := HALL.out; rw [take_len l (by have := HL.out; omega), take_len l' (by have := HL'.out; omega)] at h; rw [fltsEq, h, decide_eq_true (by rw [HL.out, HL'.out])]; rfl)
        go_wp2_with (fail)
        go_ret
        exact ⟨by rw [E.out]; rfl, hB⟩
  · have E := hide (show fltsEq l l' = false by rw [fltsEq, decide_eq_false (by rw [hl.len, hl'.len]; exact hnn)]; rfl)
    go_enter Tryz.func18, Tryz.ntmps18
    go_wp2_with (fail)
    go_ret
    exact ⟨by rw [E.out]; rfl, Below.refl _ _⟩
set_option maxHeartbeats 1000000 in
theorem SameFaults_any (A : Option Addr) (n c : Nat) (A' : Option Addr) (n' c' : Nat) (l l' : List FaultT) (w : World) (hn : n ≤ maxLen) (hn' : n' ≤ maxLen) (hl : Sl w w.heap.size FaultT.cs 3 A n l) (hl' : Sl w w.heap.size FaultT.cs 3 A' n' l') (hf : FaultsOk w l) (hf' : FaultsOk w l') :
    Calls Tryz.prog 6 #[.slice A n c, .slice A' n' c'] w fun e w' => e = .returned (.bool (fltsEq l l')) ∧ Below w.heap.size w w' := by
  have C := hide (EqualFunc2_any A n c A' n' c' l l' w hn hn' hl hl' hf hf')
  clear hn hn'
  go_enter Tryz.func6, Tryz.ntmps6
  go_wp2_with (go_at_call 18; refine C.out.mono ?_; rintro r w1 ⟨rfl, hw1⟩)
  go_ret
  exact ⟨rfl, hw1⟩
end Go.Proofs.YtkjpojaanocfjaaGreatDoor

/- The variable that a search reads is there; faults that read alike are equal. -/
namespace Go.Proofs.YtkjpojaanocfjaaGreatDoor
open Go.RowKit
set_option linter.unusedVariables false
set_option linter.unusedSimpArgs false
/-- The library's variable that a search reads is there, whatever the world that a call begins in. -/
theorem mx_of {W : World} (h : W.ShapedOpen Tryz.prog) : Mx W :=
  Go.Proofs.cell_of_shapedOpen_int (zero := #[.int .i64 0]) (t := 3) h (of_decide_eq_true (by kernel_rfl)) (by kernel_rfl) rfl (by kernel_rfl) (by kernel_rfl) Tryz.underlying3
theorem fltsEq_map : ∀ (a b : List FaultT), a.map FaultT.flt = b.map FaultT.flt → fltsEq a b = true := by
  intro a b h
  have hl : a.length = b.length := by have := congrArg List.length h; simpa using this
  unfold fltsEq
  rw [decide_eq_true hl, Bool.true_and, List.all_eq_true]
  rintro ⟨x, y⟩ hxy
  obtain ⟨k, hk⟩ := List.mem_iff_getElem?.1 hxy
  rw [List.getElem?_zip_eq_some] at hk
  have h2 : (a.map FaultT.flt)[k]? = (b.map FaultT.flt)[k]? := by rw [h]
  rw [List.getElem?_map, List.getElem?_map, hk.1, hk.2] at h2
  simp [FaultT.flt] at h2
  unfold fltEq
  simp [h2]
end Go.Proofs.YtkjpojaanocfjaaGreatDoor

/- Walks of FaultsRead and Guessed (printed by gen_fx.py). -/
namespace Go.Proofs.YtkjpojaanocfjaaGreatDoor
open Go.RowKit
set_option linter.unusedVariables false
set_option linter.unusedSimpArgs false
theorem innShr_le {first k2 : Nat} {K T : ByteArray} {fs : List Frame} {more : Int} {out : List Flt} {r : RdR} (h : innShr first k2 K T fs more out = .inl r) : r.2 ≤ k2 ∨ r.2 ≤ first + fs.length := by
  unfold innShr at h
  split at h
  · cases h
    show (shrN (lastF out) fs first k2 more).1 ≤ k2 ∨ (shrN (lastF out) fs first k2 more).1 ≤ first + fs.length
    unfold shrN
    split
    · left
      split
      · exact Nat.le_refl _
      · split
        · exact Nat.le_refl _
        · split
          · exact Nat.le_refl _
          · show (if _ then 0 else k2) ≤ k2
            split <;> omega
    · right
      split
      · exact Nat.zero_le _
      · show (if _ then first + fs.length - _ else 0) ≤ _
        split
        · exact Nat.sub_le _ _
        · exact Nat.zero_le _
  · cases h
theorem innStep_le {L : List ByteArray} {t : ByteArray} {k : Nat} {out : List Flt} {pre : ByteArray} {r : RdR} (hk : k ≤ L.length) (h : innStep L t k out pre = .inl r) : r.2 ≤ L.length + 1 := by
  unfold innStep at h
  split at h
  · cases h; show k + 1 ≤ _; omega
  · rename_i K T hf
    have h1 := fltS_lt hf
    have h2 := frs_le L preAt (L.length - (k + 1)) (k + 1) [] (by omega)
    obtain ⟨⟨b, k1, fs⟩, hr⟩ : ∃ r, frsFrom L preAt (L.length - (k + 1)) (k + 1) [] = r := ⟨_, rfl⟩
    rw [hr] at h h2
    simp at h2
    dsimp only at h
    split at h
    · unfold innTail at h
      split at h
      · rename_i hb
        have := begK_lt hb
        split at h
        · rcases innShr_le h with h9 | h9 <;> omega
        · cases h; show k1 + 1 ≤ _; omega
      · split at h
        · cases h; show k1 + 1 ≤ _; omega
        · rcases innShr_le h with h9 | h9 <;> omega
    · cases h; show k1 + 1 ≤ _; omega
theorem innR_le (L : List ByteArray) (t : ByteArray) : ∀ (f k : Nat) (out : List Flt) (pre : ByteArray), k ≤ L.length → (innR L t f k out pre).2 ≤ L.length + 1
  | 0, k, out, pre, h => by show k + 1 ≤ _; omega
  | f + 1, k, out, pre, h => by
    rw [innR]
    split
    · rename_i r hs; exact innStep_le h hs
    · rename_i k2 out2 hs
      have := innStep_lt hs
      split
      · exact Nat.zero_le _
      · exact innR_le L t f k2 out2 preCaused this.2
theorem outR_le (L : List ByteArray) : ∀ (f k : Nat) (out : List Flt), k ≤ L.length → (outR L f k out).2 ≤ L.length + 1
  | 0, k, out, h => by show k + 1 ≤ _; omega
  | f + 1, k, out, h => by
    rw [outR]
    split
    · rename_i r hs
      unfold outStep at hs
      split at hs
      · rename_i hl
        have h1 := lineIs_lt hl
        have h2 := frs_le L preTwo (L.length - (k + 1)) (k + 1) [] (by omega)
        split at hs
        · unfold outTail at hs
          split at hs
          · cases hs; show _ + 1 ≤ _; omega
          · rename_i hf
            have h3 := fltS_lt hf
            split at hs
            · cases hs; exact Nat.zero_le _
            · split at hs
              · cases hs
              · cases hs; show _ + 2 ≤ _; omega
        · cases hs; show _ + 1 ≤ _; omega
      · cases hs; show k + 1 ≤ _; omega
    · rename_i k2 out2 hs
      exact outR_le L f k2 out2 (outStep_lt hs).2
theorem parFrs_bad (L : List ByteArray) : ∀ (f k : Nat) (fs : List Frame), (parFrs L f k fs).1 ≤ L.length + 1
  | 0, k, fs => Nat.zero_le _
  | f + 1, k, fs => by
    rw [parFrs]
    split
    · exact Nat.zero_le _
    · rename_i x hx
      have := (List.getElem?_eq_some_iff.1 hx).1
      split
      · exact Nat.zero_le _
      · split
        · split
          · split
            · show k + 2 ≤ _; omega
            · exact parFrs_bad L f (k + 2) _
          · show k + 2 ≤ _; omega
        · show k + 1 ≤ _; omega
theorem parR_le (L : List ByteArray) : ∀ (f k : Nat) (out : List Flt), k ≤ L.length → (parR L f k out).2 ≤ L.length + 1
  | 0, k, out, h => by show k + 1 ≤ _; omega
  | f + 1, k, out, h => by
    rw [parR]
    split
    · rename_i r hs
      unfold parStep at hs
      split at hs
      · cases hs; show k + 1 ≤ _; omega
      · split at hs
        · split at hs
          · cases hs; exact Nat.zero_le _
          · cases hs
        · cases hs; exact parFrs_bad L _ _ _
    · rename_i k2 out2 hs
      exact parR_le L f k2 out2 (parStep_lt hs).2
theorem rdR_le (s : ByteArray) (form : Int) : (rdR s form).2 ≤ (linL s).length + 1 := by
  unfold rdR
  split
  · exact innR_le _ _ _ _ _ _ (Nat.zero_le _)
  · split
    · exact outR_le _ _ _ _ (Nat.zero_le _)
    · exact parR_le _ _ _ _ (Nat.zero_le _)
set_option maxRecDepth 100000 in
set_option maxHeartbeats 16000000 in
theorem FaultsRead_any (s : ByteArray) (form : Int) (w : World) (hm : Mx w) :
    Calls Tryz.prog 5 #[.string s, .int .i64 form] w fun e w' => RxOut w.heap.size (rdX s form) e w' ∧ Below w.heap.size w w' := by
  have hX : rdX s form = rdX s form := rfl
  conv at hX => rhs; unfold rdX
  obtain ⟨X, hXX⟩ : ∃ X, rdX s form = X := ⟨_, rfl⟩
  rw [hXX] at hX ⊢
  clear hXX
  by_cases h1 : 1000000 < s.size
  · have E := hide (show X = ([], 0, 4) by rw [hX, if_pos h1])
    have h1' : (1000000 : Int) < (s.size : Int) := by omega
    clear hX
    go_enter Tryz.func5, Tryz.ntmps5
    go_wp2_with (fail)
    refine bodyPost_ret (by simp [results, Tryz.results5, go_sem]; try rfl) rfl ?_
    exact ⟨⟨_, [], by rw [E.out] <;> rfl, Fts.nil _ _, by rw [E.out] <;> rfl⟩, Below.refl _ _⟩
  · rw [if_neg h1] at hX
    have h1' : ¬ (1000000 : Int) < (s.size : Int) := by omega
    by_cases h2 : form < 1 ∨ 3 < form
    · have E := hide (show X = ([], 0, 10) by rw [hX, if_pos h2])
      have HO := hide (show ∀ W, Calls Tryz.prog 12 #[.int .i64 form, .int .i64 1, .int .i64 3] W fun e w' => e = .returned (.bool false) ∧ W = w' from fun W => by
        have h9 := in_any form 1 3 W
        rw [show outsideB form 1 3 = true by unfold outsideB; simp; exact h2] at h9
        exact h9)
      clear hX
      go_enter Tryz.func5, Tryz.ntmps5
      go_wp2_with (go_at_call 12; refine (HO.out _).mono ?_; rintro e w1 ⟨rfl, rfl⟩)
      refine bodyPost_ret (by simp [results, Tryz.results5, go_sem]; try rfl) rfl ?_
      exact ⟨⟨_, [], by rw [E.out] <;> rfl, Fts.nil _ _, by rw [E.out] <;> rfl⟩, Below.refl _ _⟩
    · rw [if_neg h2] at hX
      have HO := hide (show ∀ W, Calls Tryz.prog 12 #[.int .i64 form, .int .i64 1, .int .i64 3] W fun e w' => e = .returned (.bool true) ∧ W = w' from fun W => by
        have h9 := in_any form 1 3 W
        rw [show outsideB form 1 3 = false by unfold outsideB; simp; omega] at h9
        exact h9)
      have hA : rdA s form = if (rdR s form).2 = 0 ∧ emptyB (linT s) = false then ((rdR s form).1, (linL s).length + 1) else rdR s form := rfl
      have hR : rdR s form = rdR s form := rfl
      conv at hR => rhs; unfold rdR
      have hll : (linL s).length ≤ 1000000 := by rw [linL_len]; have := Lib.countB_le ⟨#[10]⟩ (by decide) _ s (Nat.le_refl _); omega
      have HSP := hide (SplitN_any s w (by omega) hm)
      have HTA := hide (linT_at s)
      have HSZ := hide (show ∀ x ∈ linesOf s, x.size ≤ 1000000 from fun x hx => by have := linesOf_le hx; omega)
      have HLL := hide (show linL s = (linesOf s).take (linL s).length by unfold linL; rw [List.dropLast_eq_take]; simp)
      have HM := hide hm
      have hRle := rdR_le s form
      obtain ⟨Q, hQ⟩ : ∃ Q, rdA s form = Q := ⟨_, rfl⟩
      obtain ⟨R, hRR⟩ : ∃ R, rdR s form = R := ⟨_, rfl⟩
      obtain ⟨m, hmm⟩ : ∃ m, (linL s).length = m := ⟨_, rfl⟩
      rw [hQ, hRR] at hA
      rw [hRR] at hR hRle
      rw [hQ] at hX
      simp only [hmm] at hR hA hll hRle HSP HTA HLL
      have HMM := hide hmm
      clear hm hQ hRR hmm
      obtain ⟨R1, R2⟩ := R
      simp only at hA hRle
      have hwm : IntKind.i64.wrap (m : Int) = (m : Int) := IntWalk.i64_in _ (by omega)
      have hlm : (m : Int) < (m : Int) + 1 := by omega
      have hlm2 : (m : Int) ≤ (m : Int) + 1 := by omega
      have hlT : (linT s).size ≤ 1000000 := HSZ.out _ (List.mem_of_getElem? HTA.out)
      obtain ⟨T, hT⟩ : ∃ T, linT s = T := ⟨_, rfl⟩
      rw [hT] at HTA hR hA hlT
      clear hT
      obtain hf1 | hf1 | hf1 : form = 1 ∨ form = 2 ∨ form = 3 := by omega
      · subst hf1
        simp only [if_true] at hR
        have hrd : ∀ W c, Lns W.heap.size w.heap.size 0 m (linL s) W → Calls Tryz.prog 14 #[.slice (some ⟨w.heap.size, 0, none⟩) m c, .string T] W fun e w' => RfOut W.heap.size (R1, R2) e w' ∧ Below W.heap.size W w' := fun W c H => by
          have h9 := inner_any (c := c) H hlT
          rw [HMM.out, ← hR] at h9
          exact h9
        have HRD := hide hrd
        clear hrd hR
        by_cases h0 : R2 = 0
        · subst h0
          cases he : emptyB T
          · have hQ : Q = (R1, m + 1) := by rw [hA, if_pos ⟨rfl, he⟩]
            have E := hide (show X = ([], m + 1, 8) by rw [hX, hQ, if_pos (Nat.succ_pos m)])
            have he' : T.toList.isEmpty = false := he
            have he'' : (T.toList == []) = false := by rw [beq_eq_false_iff_ne]; intro e9; rw [e9] at he'; cases he'
            have he3 : ¬ T.toList = [] := by intro e9; rw [e9] at he'; cases he'
            have hmi : (0 : Int) ≤ (m : Int) := by omega
            clear hX hA hQ he
            go_enter Tryz.func5, Tryz.ntmps5
            go_wp2_with (first | (go_at_call 12; refine (HO.out _).mono ?_; rintro e w0 ⟨rfl, rfl⟩) | (go_at_call 13; refine HSP.out.mono ?_; rintro e w1 ⟨rfl, hb1, hsl1, hz1⟩; have hm1 := HM.out.up hb1 (Nat.le_refl _); have hmlt := HM.out.lt; have HLN := hide (show Lns w1.heap.size w.heap.size 0 m (linL s) w1 from ⟨by have h9 := hsl1.first (i := m) (by omega); rw [← HLL.out, ← hz1] at h9; exact h9, fun x hx => HSZ.out x ((List.dropLast_sublist _).subset hx), hll, by omega, hm1⟩); have c1 : w1.cell? ⟨w.heap.size, m, none⟩ = some (.string T) := (by obtain ⟨b9, o9, e9, _, hc9⟩ := hsl1.cells (by omega); simp at e9; obtain ⟨rfl, rfl⟩ := e9; have h9 := hc9 m _ HTA.out 0 _ rfl; simpa using h9); have HB1 := hide hb1; clear hb1 hsl1 hm1) | (go_at_call 14; refine (HRD.out _ _ HLN.out).mono ?_; rintro e w2 ⟨⟨v, l, z, rfl, hz9, hF2, hl2⟩, hb2⟩; obtain ⟨A2, c2, rfl⟩ := own_sl hF2.out; have HB2 := hide (HB1.out.trans (hb2.mono HB1.out.size)); have HF2 := hide (hF2.low HB1.out.size); have HL2 := hide hl2; have hz8 : z = -1 := hz9.trans (by simp); subst hz8; clear hz9; clear hF2 hl2 hb2) | fail)
            refine bodyPost_ret (by simp [results, Tryz.results5, go_sem]; try rfl) rfl ?_
            exact ⟨⟨_, [], by rw [E.out] <;> rfl, Fts.nil _ _, by rw [E.out] <;> rfl⟩, HB2.out⟩
          · have hQ : Q = (R1, 0) := by rw [hA, if_neg (fun h9 => by rw [he] at h9; exact absurd h9.2 (by decide))]
            have hTe := emptyB_iff he
            subst hTe
            rw [hQ, if_neg (by simp)] at hX
            simp only at hX
            obtain ⟨l0, hl0⟩ : ∃ l0, R1.getD [] = l0 := ⟨_, rfl⟩
            rw [hl0] at hX
            obtain ⟨er, her⟩ : ∃ er, errF l0 = er := ⟨_, rfl⟩
            rw [her] at hX
            have HER := hide her
            have HL0 := hide hl0
            clear her hl0 hA hQ he
            by_cases h4 : er = 0
            · have E := hide (show X = (l0, 0, 0) by rw [hX, if_pos h4])
              have HE0 := hide h4
              clear hX h4
              go_enter Tryz.func5, Tryz.ntmps5
              go_wp2_with (first | (go_at_call 12; refine (HO.out _).mono ?_; rintro e w0 ⟨rfl, rfl⟩) | (go_at_call 13; refine HSP.out.mono ?_; rintro e w1 ⟨rfl, hb1, hsl1, hz1⟩; have hm1 := HM.out.up hb1 (Nat.le_refl _); have hmlt := HM.out.lt; have HLN := hide (show Lns w1.heap.size w.heap.size 0 m (linL s) w1 from ⟨by have h9 := hsl1.first (i := m) (by omega); rw [← HLL.out, ← hz1] at h9; exact h9, fun x hx => HSZ.out x ((List.dropLast_sublist _).subset hx), hll, by omega, hm1⟩); have c1 : w1.cell? ⟨w.heap.size, m, none⟩ = some (.string ⟨#[]⟩) := (by obtain ⟨b9, o9, e9, _, hc9⟩ := hsl1.cells (by omega); simp at e9; obtain ⟨rfl, rfl⟩ := e9; have h9 := hc9 m _ HTA.out 0 _ rfl; simpa using h9); have HB1 := hide hb1; clear hb1 hsl1 hm1) | (go_at_call 14; refine (HRD.out _ _ HLN.out).mono ?_; rintro e w2 ⟨⟨v, l, z, rfl, hz9, hF2, hl2⟩, hb2⟩; obtain ⟨A2, c2, rfl⟩ := own_sl hF2.out; have HB2 := hide (HB1.out.trans (hb2.mono HB1.out.size)); have HF2 := hide (hF2.low HB1.out.size); have HL2 := hide hl2; have hz8 : z = -1 := hz9.trans (by simp); subst hz8; clear hz9; have hck := fun cc => FaultsError_any A2 l.length cc l w2 HF2.out.sl.2.2 HF2.out.sl.2.1 HF2.out.ok; rw [errF_map, HL2.out.trans HL0.out, HER.out, HE0.out] at hck; have HCK := hide hck; clear hck; clear hF2 hl2 hb2) | (go_at_call 17; refine (HCK.out _).mono ?_; rintro e w3 ⟨rfl, hb3⟩; have HF3 := hide (HF2.out.below hb3); have HB3 := hide (HB2.out.trans (hb3.mono HB2.out.size)); clear hb3) | fail)
              refine bodyPost_ret (by simp [results, Tryz.results5, go_sem]; try rfl) rfl ?_
              exact ⟨⟨_, l, by rw [E.out] <;> rfl, HF3.out, by rw [E.out]; exact HL2.out.trans HL0.out⟩, HB3.out⟩
            · have E := hide (show X = ([], 0, er) by rw [hX, if_neg h4])
              have h4' : (er == 0) = false := by rw [beq_eq_false_iff_ne]; exact h4
              clear hX
              go_enter Tryz.func5, Tryz.ntmps5
              go_wp2_with (first | (go_at_call 12; refine (HO.out _).mono ?_; rintro e w0 ⟨rfl, rfl⟩) | (go_at_call 13; refine HSP.out.mono ?_; rintro e w1 ⟨rfl, hb1, hsl1, hz1⟩; have hm1 := HM.out.up hb1 (Nat.le_refl _); have hmlt := HM.out.lt; have HLN := hide (show Lns w1.heap.size w.heap.size 0 m (linL s) w1 from ⟨by have h9 := hsl1.first (i := m) (by omega); rw [← HLL.out, ← hz1] at h9; exact h9, fun x hx => HSZ.out x ((List.dropLast_sublist _).subset hx), hll, by omega, hm1⟩); have c1 : w1.cell? ⟨w.heap.size, m, none⟩ = some (.string ⟨#[]⟩) := (by obtain ⟨b9, o9, e9, _, hc9⟩ := hsl1.cells (by omega); simp at e9; obtain ⟨rfl, rfl⟩ := e9; have h9 := hc9 m _ HTA.out 0 _ rfl; simpa using h9); have HB1 := hide hb1; clear hb1 hsl1 hm1) | (go_at_call 14; refine (HRD.out _ _ HLN.out).mono ?_; rintro e w2 ⟨⟨v, l, z, rfl, hz9, hF2, hl2⟩, hb2⟩; obtain ⟨A2, c2, rfl⟩ := own_sl hF2.out; have HB2 := hide (HB1.out.trans (hb2.mono HB1.out.size)); have HF2 := hide (hF2.low HB1.out.size); have HL2 := hide hl2; have hz8 : z = -1 := hz9.trans (by simp); subst hz8; clear hz9; have hck := fun cc => FaultsError_any A2 l.length cc l w2 HF2.out.sl.2.2 HF2.out.sl.2.1 HF2.out.ok; rw [errF_map, HL2.out.trans HL0.out, HER.out] at hck; have HCK := hide hck; clear hck; clear hF2 hl2 hb2) | (go_at_call 17; refine (HCK.out _).mono ?_; rintro e w3 ⟨rfl, hb3⟩; have HF3 := hide (HF2.out.below hb3); have HB3 := hide (HB2.out.trans (hb3.mono HB2.out.size)); clear hb3) | fail)
              refine bodyPost_ret (by simp [results, Tryz.results5, go_sem]; try rfl) rfl ?_
              exact ⟨⟨_, [], by rw [E.out] <;> rfl, Fts.nil _ _, by rw [E.out] <;> rfl⟩, HB3.out⟩
        · obtain ⟨zz, rfl⟩ : ∃ zz, R2 = zz + 1 := ⟨R2 - 1, by omega⟩
          have hQ : Q = (R1, zz + 1) := by rw [hA, if_neg (fun h9 => h0 h9.1)]
          have E := hide (show X = ([], zz + 1, 8) by rw [hX, hQ, if_pos (Nat.succ_pos zz)])
          have hzi : ¬ (zz : Int) < 0 := by omega
          have hzj : (0 : Int) ≤ (zz : Int) := by omega
          clear hX hA hQ h0
          go_enter Tryz.func5, Tryz.ntmps5
          go_wp2_with (first | (go_at_call 12; refine (HO.out _).mono ?_; rintro e w0 ⟨rfl, rfl⟩) | (go_at_call 13; refine HSP.out.mono ?_; rintro e w1 ⟨rfl, hb1, hsl1, hz1⟩; have hm1 := HM.out.up hb1 (Nat.le_refl _); have hmlt := HM.out.lt; have HLN := hide (show Lns w1.heap.size w.heap.size 0 m (linL s) w1 from ⟨by have h9 := hsl1.first (i := m) (by omega); rw [← HLL.out, ← hz1] at h9; exact h9, fun x hx => HSZ.out x ((List.dropLast_sublist _).subset hx), hll, by omega, hm1⟩); have c1 : w1.cell? ⟨w.heap.size, m, none⟩ = some (.string T) := (by obtain ⟨b9, o9, e9, _, hc9⟩ := hsl1.cells (by omega); simp at e9; obtain ⟨rfl, rfl⟩ := e9; have h9 := hc9 m _ HTA.out 0 _ rfl; simpa using h9); have HB1 := hide hb1; clear hb1 hsl1 hm1) | (go_at_call 14; refine (HRD.out _ _ HLN.out).mono ?_; rintro e w2 ⟨⟨v, l, z, rfl, hz9, hF2, hl2⟩, hb2⟩; obtain ⟨A2, c2, rfl⟩ := own_sl hF2.out; have HB2 := hide (HB1.out.trans (hb2.mono HB1.out.size)); have HF2 := hide (hF2.low HB1.out.size); have HL2 := hide hl2; have hz8 : z = (zz : Int) := hz9.trans (by simp); subst hz8; clear hz9; clear hF2 hl2 hb2) | fail)
          refine bodyPost_ret (by simp [results, Tryz.results5, go_sem]; try rfl) rfl ?_
          exact ⟨⟨_, [], by rw [E.out] <;> rfl, Fts.nil _ _, by rw [E.out] <;> rfl⟩, HB2.out⟩
      · subst hf1
        rw [if_neg (by decide), if_pos rfl] at hR
        have hrd : ∀ W c, Lns W.heap.size w.heap.size 0 m (linL s) W → Calls Tryz.prog 15 #[.slice (some ⟨w.heap.size, 0, none⟩) m c] W fun e w' => RfOut W.heap.size (R1, R2) e w' ∧ Below W.heap.size W w' := fun W c H => by
          have h9 := outer_any (c := c) H
          rw [HMM.out, ← hR] at h9
          exact h9
        have HRD := hide hrd
        clear hrd hR
        by_cases h0 : R2 = 0
        · subst h0
          cases he : emptyB T
          · have hQ : Q = (R1, m + 1) := by rw [hA, if_pos ⟨rfl, he⟩]
            have E := hide (show X = ([], m + 1, 8) by rw [hX, hQ, if_pos (Nat.succ_pos m)])
            have he' : T.toList.isEmpty = false := he
            have he'' : (T.toList == []) = false := by rw [beq_eq_false_iff_ne]; intro e9; rw [e9] at he'; cases he'
            have he3 : ¬ T.toList = [] := by intro e9; rw [e9] at he'; cases he'
            have hmi : (0 : Int) ≤ (m : Int) := by omega
            clear hX hA hQ he
            go_enter Tryz.func5, Tryz.ntmps5
            go_wp2_with (first | (go_at_call 12; refine (HO.out _).mono ?_; rintro e w0 ⟨rfl, rfl⟩) | (go_at_call 13; refine HSP.out.mono ?_; rintro e w1 ⟨rfl, hb1, hsl1, hz1⟩; have hm1 := HM.out.up hb1 (Nat.le_refl _); have hmlt := HM.out.lt; have HLN := hide (show Lns w1.heap.size w.heap.size 0 m (linL s) w1 from ⟨by have h9 := hsl1.first (i := m) (by omega); rw [← HLL.out, ← hz1] at h9; exact h9, fun x hx => HSZ.out x ((List.dropLast_sublist _).subset hx), hll, by omega, hm1⟩); have c1 : w1.cell? ⟨w.heap.size, m, none⟩ = some (.string T) := (by obtain ⟨b9, o9, e9, _, hc9⟩ := hsl1.cells (by omega); simp at e9; obtain ⟨rfl, rfl⟩ := e9; have h9 := hc9 m _ HTA.out 0 _ rfl; simpa using h9); have HB1 := hide hb1; clear hb1 hsl1 hm1) | (go_at_call 15; refine (HRD.out _ _ HLN.out).mono ?_; rintro e w2 ⟨⟨v, l, z, rfl, hz9, hF2, hl2⟩, hb2⟩; obtain ⟨A2, c2, rfl⟩ := own_sl hF2.out; have HB2 := hide (HB1.out.trans (hb2.mono HB1.out.size)); have HF2 := hide (hF2.low HB1.out.size); have HL2 := hide hl2; have hz8 : z = -1 := hz9.trans (by simp); subst hz8; clear hz9; clear hF2 hl2 hb2) | fail)
            refine bodyPost_ret (by simp [results, Tryz.results5, go_sem]; try rfl) rfl ?_
            exact ⟨⟨_, [], by rw [E.out] <;> rfl, Fts.nil _ _, by rw [E.out] <;> rfl⟩, HB2.out⟩
          · have hQ : Q = (R1, 0) := by rw [hA, if_neg (fun h9 => by rw [he] at h9; exact absurd h9.2 (by decide))]
            have hTe := emptyB_iff he
            subst hTe
            rw [hQ, if_neg (by simp)] at hX
            simp only at hX
            obtain ⟨l0, hl0⟩ : ∃ l0, R1.getD [] = l0 := ⟨_, rfl⟩
            rw [hl0] at hX
            obtain ⟨er, her⟩ : ∃ er, errF l0 = er := ⟨_, rfl⟩
            rw [her] at hX
            have HER := hide her
            have HL0 := hide hl0
            clear her hl0 hA hQ he
            by_cases h4 : er = 0
            · have E := hide (show X = (l0, 0, 0) by rw [hX, if_pos h4])
              have HE0 := hide h4
              clear hX h4
              go_enter Tryz.func5, Tryz.ntmps5
              go_wp2_with (first | (go_at_call 12; refine (HO.out _).mono ?_; rintro e w0 ⟨rfl, rfl⟩) | (go_at_call 13; refine HSP.out.mono ?_; rintro e w1 ⟨rfl, hb1, hsl1, hz1⟩; have hm1 := HM.out.up hb1 (Nat.le_refl _); have hmlt := HM.out.lt; have HLN := hide (show Lns w1.heap.size w.heap.size 0 m (linL s) w1 from ⟨by have h9 := hsl1.first (i := m) (by omega); rw [← HLL.out, ← hz1] at h9; exact h9, fun x hx => HSZ.out x ((List.dropLast_sublist _).subset hx), hll, by omega, hm1⟩); have c1 : w1.cell? ⟨w.heap.size, m, none⟩ = some (.string ⟨#[]⟩) := (by obtain ⟨b9, o9, e9, _, hc9⟩ := hsl1.cells (by omega); simp at e9; obtain ⟨rfl, rfl⟩ := e9; have h9 := hc9 m _ HTA.out 0 _ rfl; simpa using h9); have HB1 := hide hb1; clear hb1 hsl1 hm1) | (go_at_call 15; refine (HRD.out _ _ HLN.out).mono ?_; rintro e w2 ⟨⟨v, l, z, rfl, hz9, hF2, hl2⟩, hb2⟩; obtain ⟨A2, c2, rfl⟩ := own_sl hF2.out; have HB2 := hide (HB1.out.trans (hb2.mono HB1.out.size)); have HF2 := hide (hF2.low HB1.out.size); have HL2 := hide hl2; have hz8 : z = -1 := hz9.trans (by simp); subst hz8; clear hz9; have hck := fun cc => FaultsError_any A2 l.length cc l w2 HF2.out.sl.2.2 HF2.out.sl.2.1 HF2.out.ok; rw [errF_map, HL2.out.trans HL0.out, HER.out, HE0.out] at hck; have HCK := hide hck; clear hck; clear hF2 hl2 hb2) | (go_at_call 17; refine (HCK.out _).mono ?_; rintro e w3 ⟨rfl, hb3⟩; have HF3 := hide (HF2.out.below hb3); have HB3 := hide (HB2.out.trans (hb3.mono HB2.out.size)); clear hb3) | fail)
              refine bodyPost_ret (by simp [results, Tryz.results5, go_sem]; try rfl) rfl ?_
              exact ⟨⟨_, l, by rw [E.out] <;> rfl, HF3.out, by rw [E.out]; exact HL2.out.trans HL0.out⟩, HB3.out⟩
            · have E := hide (show X = ([], 0, er) by rw [hX, if_neg h4])
              have h4' : (er == 0) = false := by rw [beq_eq_false_iff_ne]; exact h4
              clear hX
              go_enter Tryz.func5, Tryz.ntmps5
              go_wp2_with (first | (go_at_call 12; refine (HO.out _).mono ?_; rintro e w0 ⟨rfl, rfl⟩) | (go_at_call 13; refine HSP.out.mono ?_; rintro e w1 ⟨rfl, hb1, hsl1, hz1⟩; have hm1 := HM.out.up hb1 (Nat.le_refl _); have hmlt := HM.out.lt; have HLN := hide (show Lns w1.heap.size w.heap.size 0 m (linL s) w1 from ⟨by have h9 := hsl1.first (i := m) (by omega); rw [← HLL.out, ← hz1] at h9; exact h9, fun x hx => HSZ.out x ((List.dropLast_sublist _).subset hx), hll, by omega, hm1⟩); have c1 : w1.cell? ⟨w.heap.size, m, none⟩ = some (.string ⟨#[]⟩) := (by obtain ⟨b9, o9, e9, _, hc9⟩ := hsl1.cells (by omega); simp at e9; obtain ⟨rfl, rfl⟩ := e9; have h9 := hc9 m _ HTA.out 0 _ rfl; simpa using h9); have HB1 := hide hb1; clear hb1 hsl1 hm1) | (go_at_call 15; refine (HRD.out _ _ HLN.out).mono ?_; rintro e w2 ⟨⟨v, l, z, rfl, hz9, hF2, hl2⟩, hb2⟩; obtain ⟨A2, c2, rfl⟩ := own_sl hF2.out; have HB2 := hide (HB1.out.trans (hb2.mono HB1.out.size)); have HF2 := hide (hF2.low HB1.out.size); have HL2 := hide hl2; have hz8 : z = -1 := hz9.trans (by simp); subst hz8; clear hz9; have hck := fun cc => FaultsError_any A2 l.length cc l w2 HF2.out.sl.2.2 HF2.out.sl.2.1 HF2.out.ok; rw [errF_map, HL2.out.trans HL0.out, HER.out] at hck; have HCK := hide hck; clear hck; clear hF2 hl2 hb2) | (go_at_call 17; refine (HCK.out _).mono ?_; rintro e w3 ⟨rfl, hb3⟩; have HF3 := hide (HF2.out.below hb3); have HB3 := hide (HB2.out.trans (hb3.mono HB2.out.size)); clear hb3) | fail)
              refine bodyPost_ret (by simp [results, Tryz.results5, go_sem]; try rfl) rfl ?_
              exact ⟨⟨_, [], by rw [E.out] <;> rfl, Fts.nil _ _, by rw [E.out] <;> rfl⟩, HB3.out⟩
        · obtain ⟨zz, rfl⟩ : ∃ zz, R2 = zz + 1 := ⟨R2 - 1, by omega⟩
          have hQ : Q = (R1, zz + 1) := by rw [hA, if_neg (fun h9 => h0 h9.1)]
          have E := hide (show X = ([], zz + 1, 8) by rw [hX, hQ, if_pos (Nat.succ_pos zz)])
          have hzi : ¬ (zz : Int) < 0 := by omega
          have hzj : (0 : Int) ≤ (zz : Int) := by omega
          clear hX hA hQ h0
          go_enter Tryz.func5, Tryz.ntmps5
          go_wp2_with (first | (go_at_call 12; refine (HO.out _).mono ?_; rintro e w0 ⟨rfl, rfl⟩) | (go_at_call 13; refine HSP.out.mono ?_; rintro e w1 ⟨rfl, hb1, hsl1, hz1⟩; have hm1 := HM.out.up hb1 (Nat.le_refl _); have hmlt := HM.out.lt; have HLN := hide (show Lns w1.heap.size w.heap.size 0 m (linL s) w1 from ⟨by have h9 := hsl1.first (i := m) (by omega); rw [← HLL.out, ← hz1] at h9; exact h9, fun x hx => HSZ.out x ((List.dropLast_sublist _).subset hx), hll, by omega, hm1⟩); have c1 : w1.cell? ⟨w.heap.size, m, none⟩ = some (.string T) := (by obtain ⟨b9, o9, e9, _, hc9⟩ := hsl1.cells (by omega); simp at e9; obtain ⟨rfl, rfl⟩ := e9; have h9 := hc9 m _ HTA.out 0 _ rfl; simpa using h9); have HB1 := hide hb1; clear hb1 hsl1 hm1) | (go_at_call 15; refine (HRD.out _ _ HLN.out).mono ?_; rintro e w2 ⟨⟨v, l, z, rfl, hz9, hF2, hl2⟩, hb2⟩; obtain ⟨A2, c2, rfl⟩ := own_sl hF2.out; have HB2 := hide (HB1.out.trans (hb2.mono HB1.out.size)); have HF2 := hide (hF2.low HB1.out.size); have HL2 := hide hl2; have hz8 : z = (zz : Int) := hz9.trans (by simp); subst hz8; clear hz9; clear hF2 hl2 hb2) | fail)
          refine bodyPost_ret (by simp [results, Tryz.results5, go_sem]; try rfl) rfl ?_
          exact ⟨⟨_, [], by rw [E.out] <;> rfl, Fts.nil _ _, by rw [E.out] <;> rfl⟩, HB2.out⟩
      · subst hf1
        rw [if_neg (by decide), if_neg (by decide)] at hR
        have hrd : ∀ W c, Lns W.heap.size w.heap.size 0 m (linL s) W → Calls Tryz.prog 16 #[.slice (some ⟨w.heap.size, 0, none⟩) m c] W fun e w' => RfOut W.heap.size (R1, R2) e w' ∧ Below W.heap.size W w' := fun W c H => by
          have h9 := pairs_any (c := c) H
          rw [HMM.out, ← hR] at h9
          exact h9
        have HRD := hide hrd
        clear hrd hR
        by_cases h0 : R2 = 0
        · subst h0
          cases he : emptyB T
          · have hQ : Q = (R1, m + 1) := by rw [hA, if_pos ⟨rfl, he⟩]
            have E := hide (show X = ([], m + 1, 8) by rw [hX, hQ, if_pos (Nat.succ_pos m)])
            have he' : T.toList.isEmpty = false := he
            have he'' : (T.toList == []) = false := by rw [beq_eq_false_iff_ne]; intro e9; rw [e9] at he'; cases he'
            have he3 : ¬ T.toList = [] := by intro e9; rw [e9] at he'; cases he'
            have hmi : (0 : Int) ≤ (m : Int) := by omega
            clear hX hA hQ he
            go_enter Tryz.func5, Tryz.ntmps5
            go_wp2_with (first | (go_at_call 12; refine (HO.out _).mono ?_; rintro e w0 ⟨rfl, rfl⟩) | (go_at_call 13; refine HSP.out.mono ?_; rintro e w1 ⟨rfl, hb1, hsl1, hz1⟩; have hm1 := HM.out.up hb1 (Nat.le_refl _); have hmlt := HM.out.lt; have HLN := hide (show Lns w1.heap.size w.heap.size 0 m (linL s) w1 from ⟨by have h9 := hsl1.first (i := m) (by omega); rw [← HLL.out, ← hz1] at h9; exact h9, fun x hx => HSZ.out x ((List.dropLast_sublist _).subset hx), hll, by omega, hm1⟩); have c1 : w1.cell? ⟨w.heap.size, m, none⟩ = some (.string T) := (by obtain ⟨b9, o9, e9, _, hc9⟩ := hsl1.cells (by omega); simp at e9; obtain ⟨rfl, rfl⟩ := e9; have h9 := hc9 m _ HTA.out 0 _ rfl; simpa using h9); have HB1 := hide hb1; clear hb1 hsl1 hm1) | (go_at_call 16; refine (HRD.out _ _ HLN.out).mono ?_; rintro e w2 ⟨⟨v, l, z, rfl, hz9, hF2, hl2⟩, hb2⟩; obtain ⟨A2, c2, rfl⟩ := own_sl hF2.out; have HB2 := hide (HB1.out.trans (hb2.mono HB1.out.size)); have HF2 := hide (hF2.low HB1.out.size); have HL2 := hide hl2; have hz8 : z = -1 := hz9.trans (by simp); subst hz8; clear hz9; clear hF2 hl2 hb2) | fail)
            refine bodyPost_ret (by simp [results, Tryz.results5, go_sem]; try rfl) rfl ?_
            exact ⟨⟨_, [], by rw [E.out] <;> rfl, Fts.nil _ _, by rw [E.out] <;> rfl⟩, HB2.out⟩
          · have hQ : Q = (R1, 0) := by rw [hA, if_neg (fun h9 => by rw [he] at h9; exact absurd h9.2 (by decide))]
            have hTe := emptyB_iff he
            subst hTe
            rw [hQ, if_neg (by simp)] at hX
            simp only at hX
            obtain ⟨l0, hl0⟩ : ∃ l0, R1.getD [] = l0 := ⟨_, rfl⟩
            rw [hl0] at hX
            obtain ⟨er, her⟩ : ∃ er, errF l0 = er := ⟨_, rfl⟩
            rw [her] at hX
            have HER := hide her
            have HL0 := hide hl0
            clear her hl0 hA hQ he
            by_cases h4 : er = 0
            · have E := hide (show X = (l0, 0, 0) by rw [hX, if_pos h4])
              have HE0 := hide h4
              clear hX h4
              go_enter Tryz.func5, Tryz.ntmps5
              go_wp2_with (first | (go_at_call 12; refine (HO.out _).mono ?_; rintro e w0 ⟨rfl, rfl⟩) | (go_at_call 13; refine HSP.out.mono ?_; rintro e w1 ⟨rfl, hb1, hsl1, hz1⟩; have hm1 := HM.out.up hb1 (Nat.le_refl _); have hmlt := HM.out.lt; have HLN := hide (show Lns w1.heap.size w.heap.size 0 m (linL s) w1 from ⟨by have h9 := hsl1.first (i := m) (by omega); rw [← HLL.out, ← hz1] at h9; exact h9, fun x hx => HSZ.out x ((List.dropLast_sublist _).subset hx), hll, by omega, hm1⟩); have c1 : w1.cell? ⟨w.heap.size, m, none⟩ = some (.string ⟨#[]⟩) := (by obtain ⟨b9, o9, e9, _, hc9⟩ := hsl1.cells (by omega); simp at e9; obtain ⟨rfl, rfl⟩ := e9; have h9 := hc9 m _ HTA.out 0 _ rfl; simpa using h9); have HB1 := hide hb1; clear hb1 hsl1 hm1) | (go_at_call 16; refine (HRD.out _ _ HLN.out).mono ?_; rintro e w2 ⟨⟨v, l, z, rfl, hz9, hF2, hl2⟩, hb2⟩; obtain ⟨A2, c2, rfl⟩ := own_sl hF2.out; have HB2 := hide (HB1.out.trans (hb2.mono HB1.out.size)); have HF2 := hide (hF2.low HB1.out.size); have HL2 := hide hl2; have hz8 : z = -1 := hz9.trans (by simp); subst hz8; clear hz9; have hck := fun cc => FaultsError_any A2 l.length cc l w2 HF2.out.sl.2.2 HF2.out.sl.2.1 HF2.out.ok; rw [errF_map, HL2.out.trans HL0.out, HER.out, HE0.out] at hck; have HCK := hide hck; clear hck; clear hF2 hl2 hb2) | (go_at_call 17; refine (HCK.out _).mono ?_; rintro e w3 ⟨rfl, hb3⟩; have HF3 := hide (HF2.out.below hb3); have HB3 := hide (HB2.out.trans (hb3.mono HB2.out.size)); clear hb3) | fail)
              refine bodyPost_ret (by simp [results, Tryz.results5, go_sem]; try rfl) rfl ?_
              exact ⟨⟨_, l, by rw [E.out] <;> rfl, HF3.out, by rw [E.out]; exact HL2.out.trans HL0.out⟩, HB3.out⟩
            · have E := hide (show X = ([], 0, er) by rw [hX, if_neg h4])
              have h4' : (er == 0) = false := by rw [beq_eq_false_iff_ne]; exact h4
              clear hX
              go_enter Tryz.func5, Tryz.ntmps5
              go_wp2_with (first | (go_at_call 12; refine (HO.out _).mono ?_; rintro e w0 ⟨rfl, rfl⟩) | (go_at_call 13; refine HSP.out.mono ?_; rintro e w1 ⟨rfl, hb1, hsl1, hz1⟩; have hm1 := HM.out.up hb1 (Nat.le_refl _); have hmlt := HM.out.lt; have HLN := hide (show Lns w1.heap.size w.heap.size 0 m (linL s) w1 from ⟨by have h9 := hsl1.first (i := m) (by omega); rw [← HLL.out, ← hz1] at h9; exact h9, fun x hx => HSZ.out x ((List.dropLast_sublist _).subset hx), hll, by omega, hm1⟩); have c1 : w1.cell? ⟨w.heap.size, m, none⟩ = some (.string ⟨#[]⟩) := (by obtain ⟨b9, o9, e9, _, hc9⟩ := hsl1.cells (by omega); simp at e9; obtain ⟨rfl, rfl⟩ := e9; have h9 := hc9 m _ HTA.out 0 _ rfl; simpa using h9); have HB1 := hide hb1; clear hb1 hsl1 hm1) | (go_at_call 16; refine (HRD.out _ _ HLN.out).mono ?_; rintro e w2 ⟨⟨v, l, z, rfl, hz9, hF2, hl2⟩, hb2⟩; obtain ⟨A2, c2, rfl⟩ := own_sl hF2.out; have HB2 := hide (HB1.out.trans (hb2.mono HB1.out.size)); have HF2 := hide (hF2.low HB1.out.size); have HL2 := hide hl2; have hz8 : z = -1 := hz9.trans (by simp); subst hz8; clear hz9; have hck := fun cc => FaultsError_any A2 l.length cc l w2 HF2.out.sl.2.2 HF2.out.sl.2.1 HF2.out.ok; rw [errF_map, HL2.out.trans HL0.out, HER.out] at hck; have HCK := hide hck; clear hck; clear hF2 hl2 hb2) | (go_at_call 17; refine (HCK.out _).mono ?_; rintro e w3 ⟨rfl, hb3⟩; have HF3 := hide (HF2.out.below hb3); have HB3 := hide (HB2.out.trans (hb3.mono HB2.out.size)); clear hb3) | fail)
              refine bodyPost_ret (by simp [results, Tryz.results5, go_sem]; try rfl) rfl ?_
              exact ⟨⟨_, [], by rw [E.out] <;> rfl, Fts.nil _ _, by rw [E.out] <;> rfl⟩, HB3.out⟩
        · obtain ⟨zz, rfl⟩ : ∃ zz, R2 = zz + 1 := ⟨R2 - 1, by omega⟩
          have hQ : Q = (R1, zz + 1) := by rw [hA, if_neg (fun h9 => h0 h9.1)]
          have E := hide (show X = ([], zz + 1, 8) by rw [hX, hQ, if_pos (Nat.succ_pos zz)])
          have hzi : ¬ (zz : Int) < 0 := by omega
          have hzj : (0 : Int) ≤ (zz : Int) := by omega
          clear hX hA hQ h0
          go_enter Tryz.func5, Tryz.ntmps5
          go_wp2_with (first | (go_at_call 12; refine (HO.out _).mono ?_; rintro e w0 ⟨rfl, rfl⟩) | (go_at_call 13; refine HSP.out.mono ?_; rintro e w1 ⟨rfl, hb1, hsl1, hz1⟩; have hm1 := HM.out.up hb1 (Nat.le_refl _); have hmlt := HM.out.lt; have HLN := hide (show Lns w1.heap.size w.heap.size 0 m (linL s) w1 from ⟨by have h9 := hsl1.first (i := m) (by omega); rw [← HLL.out, ← hz1] at h9; exact h9, fun x hx => HSZ.out x ((List.dropLast_sublist _).subset hx), hll, by omega, hm1⟩); have c1 : w1.cell? ⟨w.heap.size, m, none⟩ = some (.string T) := (by obtain ⟨b9, o9, e9, _, hc9⟩ := hsl1.cells (by omega); simp at e9; obtain ⟨rfl, rfl⟩ := e9; have h9 := hc9 m _ HTA.out 0 _ rfl; simpa using h9); have HB1 := hide hb1; clear hb1 hsl1 hm1) | (go_at_call 16; refine (HRD.out _ _ HLN.out).mono ?_; rintro e w2 ⟨⟨v, l, z, rfl, hz9, hF2, hl2⟩, hb2⟩; obtain ⟨A2, c2, rfl⟩ := own_sl hF2.out; have HB2 := hide (HB1.out.trans (hb2.mono HB1.out.size)); have HF2 := hide (hF2.low HB1.out.size); have HL2 := hide hl2; have hz8 : z = (zz : Int) := hz9.trans (by simp); subst hz8; clear hz9; clear hF2 hl2 hb2) | fail)
          refine bodyPost_ret (by simp [results, Tryz.results5, go_sem]; try rfl) rfl ?_
          exact ⟨⟨_, [], by rw [E.out] <;> rfl, Fts.nil _ _, by rw [E.out] <;> rfl⟩, HB2.out⟩
set_option maxRecDepth 100000 in
set_option maxHeartbeats 16000000 in
theorem Guessed_any (s : ByteArray) (w : World) (hm : Mx w) :
    Calls Tryz.prog 8 #[.string s] w fun e w' => e = .returned (.int .i64 (guR s 3)) ∧ Below w.heap.size w w' := by
  have HM := hide hm
  obtain ⟨G, hG⟩ : ∃ G, guR s 3 = G := ⟨_, rfl⟩
  have HG := hide hG
  rw [hG]
  clear hG hm
  skip
  go_enter Tryz.func8, Tryz.ntmps8
  go_wp2_with (fail)
  go_loopw [3] (fun i wr => ∃ j : Nat, j ≤ 3 ∧ i = .int .i64 ((j : Int) + 1) ∧ Below w.heap.size w wr ∧ guR s (3 - j) = G) (fun i _ => 4 - (intOf i).toNat)
  case atStart => exact ⟨0, by omega, rfl, by first | exact Below.refl _ _ | exact (Below.refl _ _).alloc (Nat.le_refl _) _, HG.out⟩
  case round =>
    obtain ⟨j, hj, rfl, hB, hg⟩ := hrel
    have HB := hide hB
    have HGJ := hide hg
    have hz := hB.size
    clear hB hg
    have hjj : j = 0 ∨ j = 1 ∨ j = 2 ∨ j = 3 := by omega
    rcases hjj with rfl | rfl | rfl | rfl
    · have hg : guR s 3 = if (rdX s 1).2.2 = 0 then 1 else guR s 2 := by rw [guR]; rfl
      have HRD := hide (FaultsRead_any s 1 wr (HM.out.up HB.out (Nat.le_refl _)))
      obtain ⟨X, hX⟩ : ∃ X, rdX s 1 = X := ⟨_, rfl⟩
      rw [hX] at hg HRD
      clear hX
      obtain ⟨X1, X2, er⟩ := X
      simp only at hg
      by_cases h0 : er = 0
      · have E := hide (show G = 1 by rw [← HGJ.out]; exact hg.trans (if_pos h0))
        subst h0
        clear hg
        go_wp2_with (go_at_call 5; refine HRD.out.mono ?_; rintro e w2 ⟨⟨v, l, rfl, hF2, hl2⟩, hb2⟩; obtain ⟨A2, c2, rfl⟩ := own_sl hF2.out; have HB2 := hide (HB.out.trans (hb2.mono HB.out.size)); clear hF2 hl2 hb2)
        go_ret
        exact ⟨by rw [E.out] <;> rfl, HB2.out⟩
      · have E := hide (show guR s 2 = G by rw [← HGJ.out]; exact (hg.trans (if_neg h0)).symm)
        have h0' : (er == 0) = false := by rw [beq_eq_false_iff_ne]; exact h0
        clear hg
        go_wp2_with (go_at_call 5; refine HRD.out.mono ?_; rintro e w2 ⟨⟨v, l, rfl, hF2, hl2⟩, hb2⟩; obtain ⟨A2, c2, rfl⟩ := own_sl hF2.out; have HB2 := hide (HB.out.trans (hb2.mono HB.out.size)); clear hF2 hl2 hb2)
        go_roundw
        case rel => exact ⟨1, by omega, rfl, HB2.out, E.out⟩
        case measure => simp [intOf]
    · have hg : guR s 2 = if (rdX s 2).2.2 = 0 then 2 else guR s 1 := by rw [guR]; rfl
      have HRD := hide (FaultsRead_any s 2 wr (HM.out.up HB.out (Nat.le_refl _)))
      obtain ⟨X, hX⟩ : ∃ X, rdX s 2 = X := ⟨_, rfl⟩
      rw [hX] at hg HRD
      clear hX
      obtain ⟨X1, X2, er⟩ := X
      simp only at hg
      by_cases h0 : er = 0
      · have E := hide (show G = 2 by rw [← HGJ.out]; exact hg.trans (if_pos h0))
        subst h0
        clear hg
        go_wp2_with (go_at_call 5; refine HRD.out.mono ?_; rintro e w2 ⟨⟨v, l, rfl, hF2, hl2⟩, hb2⟩; obtain ⟨A2, c2, rfl⟩ := own_sl hF2.out; have HB2 := hide (HB.out.trans (hb2.mono HB.out.size)); clear hF2 hl2 hb2)
        go_ret
        exact ⟨by rw [E.out] <;> rfl, HB2.out⟩
      · have E := hide (show guR s 1 = G by rw [← HGJ.out]; exact (hg.trans (if_neg h0)).symm)
        have h0' : (er == 0) = false := by rw [beq_eq_false_iff_ne]; exact h0
        clear hg
        go_wp2_with (go_at_call 5; refine HRD.out.mono ?_; rintro e w2 ⟨⟨v, l, rfl, hF2, hl2⟩, hb2⟩; obtain ⟨A2, c2, rfl⟩ := own_sl hF2.out; have HB2 := hide (HB.out.trans (hb2.mono HB.out.size)); clear hF2 hl2 hb2)
        go_roundw
        case rel => exact ⟨2, by omega, rfl, HB2.out, E.out⟩
        case measure => simp [intOf]
    · have hg : guR s 1 = if (rdX s 3).2.2 = 0 then 3 else guR s 0 := by rw [guR]; rfl
      have HRD := hide (FaultsRead_any s 3 wr (HM.out.up HB.out (Nat.le_refl _)))
      obtain ⟨X, hX⟩ : ∃ X, rdX s 3 = X := ⟨_, rfl⟩
      rw [hX] at hg HRD
      clear hX
      obtain ⟨X1, X2, er⟩ := X
      simp only at hg
      by_cases h0 : er = 0
      · have E := hide (show G = 3 by rw [← HGJ.out]; exact hg.trans (if_pos h0))
        subst h0
        clear hg
        go_wp2_with (go_at_call 5; refine HRD.out.mono ?_; rintro e w2 ⟨⟨v, l, rfl, hF2, hl2⟩, hb2⟩; obtain ⟨A2, c2, rfl⟩ := own_sl hF2.out; have HB2 := hide (HB.out.trans (hb2.mono HB.out.size)); clear hF2 hl2 hb2)
        go_ret
        exact ⟨by rw [E.out] <;> rfl, HB2.out⟩
      · have E := hide (show guR s 0 = G by rw [← HGJ.out]; exact (hg.trans (if_neg h0)).symm)
        have h0' : (er == 0) = false := by rw [beq_eq_false_iff_ne]; exact h0
        clear hg
        go_wp2_with (go_at_call 5; refine HRD.out.mono ?_; rintro e w2 ⟨⟨v, l, rfl, hF2, hl2⟩, hb2⟩; obtain ⟨A2, c2, rfl⟩ := own_sl hF2.out; have HB2 := hide (HB.out.trans (hb2.mono HB.out.size)); clear hF2 hl2 hb2)
        go_roundw
        case rel => exact ⟨3, by omega, rfl, HB2.out, E.out⟩
        case measure => simp [intOf]
    · have E := hide (show G = 0 by rw [← HGJ.out]; rfl)
      go_wp2_with (fail)
      go_ret
      exact ⟨by rw [E.out] <;> rfl, HB.out⟩
end Go.Proofs.YtkjpojaanocfjaaGreatDoor

/- The law StackReads. -/
namespace Go.Proofs.YtkjpojaanocfjaaGreatDoor
open Go.RowKit
set_option linter.unusedVariables false
set_option linter.unusedSimpArgs false
set_option maxRecDepth 100000 in
set_option maxHeartbeats 8000000 in
theorem stackReads.walk {q q2 : Prop} {W : World} (s : ByteArray) (hs : s.size ≤ reachBytes) (form : Int) (hq : q) (hL : q2) (hSO : W.ShapedOpen Tryz.prog) :
    Calls Tryz.prog 3 #[.string s, .int .i64 form] W fun e w' => e = .returned (.bool true) ∧ Below W.heap.size W w' := by
  have hm := mx_of hSO
  clear hs hq hL hSO
  have HM := hide hm
  have hr1 := Read_any s form W hm
  have hr2 := fun W' (h : Mx W') => FaultsRead_any s form W' h
  obtain ⟨X, hX⟩ : ∃ X, rdX s form = X := ⟨_, rfl⟩
  rw [hX] at hr1
  simp only [hX] at hr2
  clear hX hm
  obtain ⟨X1, X2, X3⟩ := X
  have HR1 := hide hr1
  have HR2 := hide hr2
  have HG1 := hide (fun W' (h : Mx W') => Guess_any s W' h)
  have HG2 := hide (fun W' (h : Mx W') => Guessed_any s W' h)
  obtain ⟨G, hG⟩ : ∃ G, guR s 3 = G := ⟨_, rfl⟩
  simp only [hG] at HG1 HG2
  clear hr1 hr2 hG
  go_enter Tryz.func3, Tryz.ntmps3
  go_wp2_with (first
    | (go_at_call 4; refine HR1.out.mono ?_; rintro e w1 ⟨⟨v1, l1, rfl, hF1, hl1⟩, hb1⟩; obtain ⟨A1, c1, rfl⟩ := own_sl hF1.out; have HB1 := hide hb1; have HF1 := hide hF1; have HL1 := hide hl1; have hz1 := hb1.size; clear hF1 hl1 hb1)
    | (go_at_call 5; refine (HR2.out _ (HM.out.up HB1.out (Nat.le_refl _))).mono ?_; rintro e w2 ⟨⟨v2, l2, rfl, hF2, hl2⟩, hb2⟩; obtain ⟨A2, c2, rfl⟩ := own_sl hF2.out; have HB2 := hide (HB1.out.trans (hb2.mono hz1)); have HF2 := hide hF2; have HF12 := hide (HF1.out.below hb2); have heq := fltsEq_map l1 l2 (HL1.out.trans hl2.symm); have hsf := fun c c' => SameFaults_any A1 l1.length c A2 l2.length c' l1 l2 w2 HF12.out.sl.2.2 HF2.out.sl.2.2 HF12.out.sl.2.1 HF2.out.sl.2.1 HF12.out.ok HF2.out.ok; rw [heq] at hsf; have HSF := hide hsf; clear hF2 hl2 hb2 heq hsf)
    | (go_at_call 6; refine (HSF.out _ _).mono ?_; rintro e w3 ⟨rfl, hb3⟩; have HB3 := hide (HB2.out.trans (hb3.mono HB2.out.size)); clear hb3)
    | (go_at_call 7; refine (HG1.out _ (HM.out.up HB3.out (Nat.le_refl _))).mono ?_; rintro e w4 ⟨rfl, hb4⟩; have HB4 := hide (HB3.out.trans (hb4.mono HB3.out.size)); clear hb4)
    | (go_at_call 8; refine (HG2.out _ (HM.out.up HB4.out (Nat.le_refl _))).mono ?_; rintro e w5 ⟨rfl, hb5⟩; have HB5 := hide (HB4.out.trans (hb5.mono HB4.out.size)); clear hb5))
  go_ret
  exact ⟨rfl, HB5.out⟩
end Go.Proofs.YtkjpojaanocfjaaGreatDoor
