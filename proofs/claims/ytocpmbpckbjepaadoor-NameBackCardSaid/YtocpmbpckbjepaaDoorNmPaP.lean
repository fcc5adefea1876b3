/- Walks of the parsers' parts and name (printed by gen_pp.py). -/
import Derived.Test.YtocpmbpckbjepaaDoorNmGQ
namespace Go.Proofs.YtocpmbpckbjepaaDoor
open Go.RowKit
set_option linter.unusedVariables false
set_option linter.unusedSimpArgs false
theorem info_partP : (Tryd.prog.info? 47).map (fun i => (i.zero, i.size, i.bytes)) = some (some (.agg #[.string ByteArray.empty, .slice none 0 0]), 2, 40) := by kernel_rfl
theorem Pb.other {c : Nat} {T : TypeId} {s : ByteArray} {i q : Int} {w0 w : World} (h : Pb c T s i q w0 w) {b j : Nat} (hb : w0.heap.size ≤ b) (hc : c < w0.heap.size) (u : Value) : Pb c T s i q w0 (w.setCell ⟨b, j, none⟩ u) :=
  ⟨⟨h.bu.be.setCell (p := ⟨b, j, none⟩) (by simp; omega) _, fun k o ho hne => block_set_other (h.bu.keep k o ho hne) _ _ (by have := lt_of_block ho; simp; omega)⟩, block_set_other h.box _ _ (by simp; omega)⟩
/-- A part with new arguments. -/
theorem part_new {f : Nat} {wa w2 wk : World} {A : Option Addr} {n q : Nat} {l : List Ty} {x : ByteArray} {S : Nat → Prop} (h : TysNew f wa w2 A n q l) (hst : StayS (fun b => wa.heap.size ≤ b) w2 wk) (hS : ∀ b, wa.heap.size ≤ b → S b) (hx : x.size ≤ maxLen) :
    PartR f wk S (x, l) [.string x, .slice A n q] := by
  obtain ⟨A9, q9, h9, h91, h92, h93⟩ := h.done (stay_ty f)
  simp only [Value.slice.injEq, true_and] at h9
  obtain ⟨rfl, rfl⟩ := h9
  exact ⟨A, n, q, rfl, hx, h91, h92, h93.stay hst (fun b hb _ => hS b hb) (fun a _ cs hc => TyS.stay hst (fun b hb _ => hS b hb) hc)⟩
theorem part_bare {f : Nat} {wk : World} {x : ByteArray} {S : Nat → Prop} (hx : x.size ≤ maxLen) : PartR f wk S (x, []) [.string x, .slice none 0 0] := ⟨none, 0, 0, rfl, hx, Nat.le_refl _, Nat.zero_le _, SlS.nil _ _ _ _ _⟩
theorem stay_set {wa w2 w3 : World} {c b j : Nat} {u : Value} (hb : b < wa.heap.size) (hc : c < wa.heap.size) (h : ButAt c (w2.setCell ⟨b, j, none⟩ u) w3) : StayS (fun b => wa.heap.size ≤ b) w2 w3 :=
  ⟨by have := h.be.size; simpa using this, fun k o hk ho => h.keep k o (block_set_other ho _ _ (by simp; omega)) (by omega)⟩
/-- A name's next identifier is read, and the name goes on. -/
def pNext (s : ByteArray) (one : Nat → Res Ty) (g : Nat) (acc : List Part) (i : Nat) : Res (List Part) := if idL s i = 0 then .bad i else pParts s one g acc (s.extract i (i + idL s i)) (i + idL s i)
section
variable {s : ByteArray} {one : Nat → Res Ty} {g i j e : Nat} {acc : List Part} {x : ByteArray} {l : List Ty}
theorem pArgs_none (h : isB s i 60 = false) : pArgs s one i = .ok i [] := by rw [pArgs, if_neg (isB_false h)]
theorem pArgs_bad (h : isB s i 60 = true) (h1 : pTys s one (s.size + 1) [] (i + 1) = .bad e) : pArgs s one i = .bad e := by rw [pArgs, if_pos (isB_true h), h1]; rfl
theorem pArgs_no (h : isB s i 60 = true) (h1 : pTys s one (s.size + 1) [] (i + 1) = .ok j l) (h2 : needB s [62] j = .bad e) : pArgs s one i = .bad e := by rw [pArgs, if_pos (isB_true h), h1]; simp only [Res.bind]; rw [h2]
theorem pArgs_ok {k : Nat} {u : Unit} (h : isB s i 60 = true) (h1 : pTys s one (s.size + 1) [] (i + 1) = .ok j l) (h2 : needB s [62] j = .ok k u) : pArgs s one i = .ok k l := by rw [pArgs, if_pos (isB_true h), h1]; simp only [Res.bind]; rw [h2]
theorem pParts_bad (h : pArgs s one i = .bad e) : pParts s one (g + 1) acc x i = .bad e := by rw [pParts, h]; rfl
theorem pParts_end (h : pArgs s one i = .ok j l) (h1 : isB s j 46 = false) : pParts s one (g + 1) acc x i = .ok j (acc ++ [(x, l)]) := by rw [pParts, h]; simp only [Res.bind]; rw [if_neg (isB_false h1)]
theorem pParts_go (h : pArgs s one i = .ok j l) (h1 : isB s j 46 = true) : pParts s one (g + 1) acc x i = pNext s one g (acc ++ [(x, l)]) (j + 1) := by rw [pParts, h]; simp only [Res.bind]; rw [if_pos (isB_true h1)]; rfl
theorem pNext_bad (h : idL s i = 0) : pNext s one g acc i = .bad i := by rw [pNext, if_pos h]
theorem pNext_go (h : idL s i ≠ 0) : pNext s one g acc i = pParts s one g acc (s.extract i (i + idL s i)) (i + idL s i) := by rw [pNext, if_neg h]
end
theorem ext_size (s : ByteArray) (i j : Nat) (h : s.size ≤ 8000) : (s.extract i j).size ≤ 8000 := by simp; omega
def nPartsOk (f : Nat) : Prop := ∀ (c : Nat) (s x : ByteArray) (i : Nat) (d : Int) (w : World), s.size ≤ 8000 → x.size ≤ 8000 → i ≤ s.size → d = 12 - (f : Int) → w.heap[c]? = some (.cells #[.string s, .int .i64 (i), .int .i64 (-1)] 86 (0, 0)) →
  Calls Tryd.prog 35 #[.pointer (some ⟨c, 0, none⟩), .string x, .int .i64 d] w fun e w' => ∃ (A : Option Addr) (n q : Nat), e = .returned (.slice A n q) ∧
    After c 86 s w (pParts s (pOne s f) (s.size + 1) [] x i) w' ∧ ∀ j l, pParts s (pOne s f) (s.size + 1) [] x i = .ok j l → PartsNew f w w' A n q l
set_option maxRecDepth 100000 in
set_option maxHeartbeats 16000000 in
theorem nParts_of {f : Nat} (H : nTysOkP f) : nPartsOk f := by
  intro c s x0 i d w hs hx0 hi hd h
  obtain ⟨i0, hi0, iz0, iz1, iz2⟩ := info_parts info_partP
  have HP := hide (Pb.start h)
  have hcw := lt_of_block h
  have HTYS := hide H
  have HD := hide hd
  clear h H hd
  obtain ⟨R, hR⟩ : ∃ R, pParts s (pOne s f) (s.size + 1) [] x0 i = R := ⟨_, rfl⟩
  rw [hR]
  have HRR := hide hR
  clear hR
  go_enter Tryd.func35, Tryd.ntmps35
  go_wp2_with (fail)
  go_loopw [7, 8] (fun lv tv wr => (∃ (n g i : Nat) (acc : List Part) (x : ByteArray), OwnT wr w.heap.size 47 2 (PartR f) lv n acc ∧ tv = .string x ∧ x.size ≤ 8000 ∧ n ≤ i ∧ i ≤ s.size ∧ s.size < i + g ∧ pParts s (pOne s f) g acc x i = R ∧ Pb c 86 s i (-1) w wr) ∨
    (∃ (A : Option Addr) (n q e i : Nat) (x : ByteArray), lv = .slice A n q ∧ tv = .string x ∧ R = .bad e ∧ i ≤ s.size ∧ Pb c 86 s i e w wr)) (fun _ _ wr => onOf c wr * (s.size - atOf c wr + 1))
  case atStart => exact .inl ⟨0, s.size + 1, i, [], x0, OwnT.nil _ _ _ _, rfl, hx0, Nat.zero_le _, hi, by omega, HRR.out, HP.out⟩
  case round =>
    rcases hrel with ⟨n, g, i1, acc, x, hown, rfl, hxs, hnx, hx, hg, hR, hp⟩ | ⟨A, n, q, e, i1, x, rfl, rfl, hR, hx, hp⟩
    · obtain ⟨g, rfl⟩ : ∃ g', g = g' + 1 := ⟨g - 1, by omega⟩
      have hzw := hp.size
      have HQ := hide hp
      have HOW := hide hown
      have HLT := hide hown.lt
      have HR := hide hR
      have HMS := hide (show onOf c wr * (s.size - atOf c wr + 1) = s.size - i1 + 1 by rw [atOf_pb hp, onOf_on hp, Nat.one_mul])
      clear hown hp hR
      obtain ⟨wS, rfl⟩ : ∃ wS : World, wS = wr := ⟨_, rfl⟩
      have HS := HQ
      have HOS := HOW
      have HSW := HQ
      have HLTS := HLT
      have HRW := HR
      have c1 := HQ.out.c1
      have c2 := HQ.out.c2
      have HXB := hide (heap_alloc_new wS (.cells #[.string x, .slice none 0 0] 47))
      have HSA := hide ((Pb.start HS.out.box).alloc (.cells #[.string x, .slice none 0 0] 47))
      have HNX := hide (show wS.heap.size ≠ c from by have := HS.out.lt; omega)
      have HCS := hide (show c < wS.heap.size from HS.out.lt)
      have HTY := hide (fun W h => HTYS.out c s (i1 + 1) d W hs h HD.out)
      obtain ⟨v1, hv1⟩ : ∃ v, isB s i1 60 = v := ⟨_, rfl⟩
      cases v1
      · have HI1 := hide (show ∀ W, W.heap[c]? = some (.cells #[.string s, .int .i64 (i1), .int .i64 (-1)] 86 (0, 0)) → Calls Tryd.prog 38 #[.pointer (some ⟨c, 0, none⟩), .int .u8 60] W fun e w' => e = .returned (.bool false) ∧ Pb c 86 s i1 (-1) W w' from fun W h => nIs_no c s i1 60 W hs hx hv1 h)
        obtain ⟨v2, hv2⟩ : ∃ v, isB s i1 46 = v := ⟨_, rfl⟩
        cases v2
        · have HE := hide (HRW.out.symm.trans (pParts_end (pArgs_none hv1) hv2))
          have HI2 := hide (show ∀ W, W.heap[c]? = some (.cells #[.string s, .int .i64 (i1), .int .i64 (-1)] 86 (0, 0)) → Calls Tryd.prog 38 #[.pointer (some ⟨c, 0, none⟩), .int .u8 46] W fun e w' => e = .returned (.bool false) ∧ Pb c 86 s i1 (-1) W w' from fun W h => nIs_no c s i1 46 W hs (by omega) hv2 h)
          clear hv2
          go_wp2_with (first
            | (go_at_call 38; ((with_reducible refine (HI1.out _ HSA.out.box).mono ?_)); rintro r w1 ⟨rfl, hq1⟩; have HQ1 := hide (HSA.out.trans hq1); have HX1 := hide (hq1.bu.keep _ _ HXB.out HNX.out); have x0 : w1.cell? ⟨wS.heap.size, 0, none⟩ = some (.string x) := (block_cell HX1.out 0).trans rfl; have x1 : w1.cell? ⟨wS.heap.size, 1, none⟩ = some (.slice none 0 0) := (block_cell HX1.out 1).trans rfl; have xf1 : w1.frozen? ⟨wS.heap.size, 1, none⟩ = false := block_free HX1.out 1; have c1 := HQ1.out.c1; have f1 := HQ1.out.f1; have hz1 := HQ1.out.size; have HO1 := hide (HOS.out.butAt (stay_part f) HQ1.out.bu hcw); have HW1 := hide (HSW.out.trans HQ1.out); have hzw1 := HW1.out.size; clear hq1)
            | (at_builtin; refine wpList_append_own_at _ rfl (.tmp 35) (.tmp 37) 22 rfl w.heap.size 47 i0 (.agg #[.string ByteArray.empty, .slice none 0 0]) 2 40 Tryd.underlying22 hi0 iz0 iz1 iz2 rfl (by decide) _ n _ rfl (HO1.out.choose_spec.1.alloc _) ⟨w1.heap.size, 0, none⟩ 1 1 [.string x, .slice none 0 0] rfl rfl (cells_new w1 [.string x, .slice none 0 0] _) (by intro u hu; simp at hu; rcases hu with rfl | rfl <;> rfl) (by unfold maxLen; omega) (by omega) (by simp; try omega) ?_; intro v1 w4 hown1 hg1 _ hv1; obtain ⟨ao, cp, rfl⟩ := own_sliceP hown1; have HQ4 := hide (HW1.out.grown hg1 HO1.out.lt (Nat.le_refl _) hcw); have HO4 := hide (OwnT.push1 (stay_part f) HO1.out rfl (part_bare (by unfold maxLen; omega)) hown1 hg1 hv1); clear hown1 hg1 hv1)
            | (go_at_call 38; ((with_reducible refine (HI2.out _ HQ4.out.box).mono ?_)); rintro r w5 ⟨rfl, hq5⟩; have HQ5 := hide (HQ4.out.trans hq5); have HO5 := hide (HO4.out.butAt (stay_part f) hq5.bu hcw); have c1 := HQ5.out.c1; have f1 := HQ5.out.f1; clear hq5))
          go_ret
          obtain ⟨A9, q9, h9, h91, h92, h93⟩ := HO5.out.done (stay_part f)
          simp only [Value.slice.injEq, true_and] at h9
          obtain ⟨rfl, rfl⟩ := h9
          exact ⟨_, n + 1, _, rfl, After.of_ok HE.out HQ5.out, fun j l h => by rw [HE.out] at h; cases h; exact ⟨h91, h92, h93⟩⟩
        · have HN := hide (HRW.out.symm.trans (pParts_go (pArgs_none hv1) hv2))
          have HI2 := hide (show ∀ W, W.heap[c]? = some (.cells #[.string s, .int .i64 (i1), .int .i64 (-1)] 86 (0, 0)) → Calls Tryd.prog 38 #[.pointer (some ⟨c, 0, none⟩), .int .u8 46] W fun e w' => e = .returned (.bool true) ∧ Pb c 86 s i1 (-1) W w' from fun W h => nIs_yes c s i1 46 W hs (by omega) hv2 h)
          have hjlt : i1 < s.size := get_lt (isB_true hv2)
          clear hv2
          by_cases hid : idL s (i1 + 1) = 0
          · have HE := hide (HN.out.trans (pNext_bad hid))
            have HID := hide (show ∀ W, W.heap[c]? = some (.cells #[.string s, .int .i64 ((i1 + 1 : Nat)), .int .i64 (-1)] 86 (0, 0)) → Calls Tryd.prog 36 #[.pointer (some ⟨c, 0, none⟩)] W fun e w' => e = .returned (.string (s.extract (i1 + 1) (i1 + 1 + idL s (i1 + 1)))) ∧ Pb c 86 s ((i1 + 1 : Nat) : Int) ((i1 + 1 : Nat) : Int) W w' from fun W h => by have h1 := nIdent_onP c s (i1 + 1) W hs (by omega) h; rw [idWr, if_pos hid] at h1; simpa only [hid, Nat.add_zero] using h1)
            clear hid
            go_wp2_with (first
              | (go_at_call 38; ((with_reducible refine (HI1.out _ HSA.out.box).mono ?_)); rintro r w1 ⟨rfl, hq1⟩; have HQ1 := hide (HSA.out.trans hq1); have HX1 := hide (hq1.bu.keep _ _ HXB.out HNX.out); have x0 : w1.cell? ⟨wS.heap.size, 0, none⟩ = some (.string x) := (block_cell HX1.out 0).trans rfl; have x1 : w1.cell? ⟨wS.heap.size, 1, none⟩ = some (.slice none 0 0) := (block_cell HX1.out 1).trans rfl; have xf1 : w1.frozen? ⟨wS.heap.size, 1, none⟩ = false := block_free HX1.out 1; have c1 := HQ1.out.c1; have f1 := HQ1.out.f1; have hz1 := HQ1.out.size; have HO1 := hide (HOS.out.butAt (stay_part f) HQ1.out.bu hcw); have HW1 := hide (HSW.out.trans HQ1.out); have hzw1 := HW1.out.size; clear hq1)
              | (at_builtin; refine wpList_append_own_at _ rfl (.tmp 35) (.tmp 37) 22 rfl w.heap.size 47 i0 (.agg #[.string ByteArray.empty, .slice none 0 0]) 2 40 Tryd.underlying22 hi0 iz0 iz1 iz2 rfl (by decide) _ n _ rfl (HO1.out.choose_spec.1.alloc _) ⟨w1.heap.size, 0, none⟩ 1 1 [.string x, .slice none 0 0] rfl rfl (cells_new w1 [.string x, .slice none 0 0] _) (by intro u hu; simp at hu; rcases hu with rfl | rfl <;> rfl) (by unfold maxLen; omega) (by omega) (by simp; try omega) ?_; intro v1 w4 hown1 hg1 _ hv1; obtain ⟨ao, cp, rfl⟩ := own_sliceP hown1; have HQ4 := hide (HW1.out.grown hg1 HO1.out.lt (Nat.le_refl _) hcw); have HO4 := hide (OwnT.push1 (stay_part f) HO1.out rfl (part_bare (by unfold maxLen; omega)) hown1 hg1 hv1); clear hown1 hg1 hv1)
              | (go_at_call 38; ((with_reducible refine (HI2.out _ HQ4.out.box).mono ?_)); rintro r w5 ⟨rfl, hq5⟩; have HQ5 := hide (HQ4.out.trans hq5); have HO5 := hide (HO4.out.butAt (stay_part f) hq5.bu hcw); have c1 := HQ5.out.c1; have f1 := HQ5.out.f1; clear hq5)
              | (go_at_call 36; refine (HID.out _ HQ5.out.step.box).mono ?_; rintro r w6 ⟨rfl, hq6⟩; have HQ6 := hide (HQ5.out.step.trans hq6); clear hq6))
            go_roundw
            case rel => exact .inr ⟨ao, n + 1, cp, i1 + 1, i1 + 1, _, rfl, rfl, HE.out, by omega, HQ6.out⟩
            case measure => rw [HMS.out, onOf_off HQ6.out, Nat.zero_mul]; omega
          · have HE := hide (HN.out.trans (pNext_go hid))
            have hil := idL_le s (i1 + 1) (by omega)
            have HID := hide (show ∀ W, W.heap[c]? = some (.cells #[.string s, .int .i64 ((i1 + 1 : Nat)), .int .i64 (-1)] 86 (0, 0)) → Calls Tryd.prog 36 #[.pointer (some ⟨c, 0, none⟩)] W fun e w' => e = .returned (.string (s.extract (i1 + 1) (i1 + 1 + idL s (i1 + 1)))) ∧ Pb c 86 s ((i1 + 1 + idL s (i1 + 1) : Nat) : Int) (-1) W w' from fun W h => by have h1 := nIdent_onP c s (i1 + 1) W hs (by omega) h; rwa [idWr, if_neg hid] at h1)
            obtain ⟨m, hm⟩ : ∃ m, i1 + 1 + idL s (i1 + 1) = m := ⟨_, rfl⟩
            rw [hm] at HID HE hil
            have hml : i1 + 1 ≤ m := by omega
            clear hid hm
            go_wp2_with (first
              | (go_at_call 38; ((with_reducible refine (HI1.out _ HSA.out.box).mono ?_)); rintro r w1 ⟨rfl, hq1⟩; have HQ1 := hide (HSA.out.trans hq1); have HX1 := hide (hq1.bu.keep _ _ HXB.out HNX.out); have x0 : w1.cell? ⟨wS.heap.size, 0, none⟩ = some (.string x) := (block_cell HX1.out 0).trans rfl; have x1 : w1.cell? ⟨wS.heap.size, 1, none⟩ = some (.slice none 0 0) := (block_cell HX1.out 1).trans rfl; have xf1 : w1.frozen? ⟨wS.heap.size, 1, none⟩ = false := block_free HX1.out 1; have c1 := HQ1.out.c1; have f1 := HQ1.out.f1; have hz1 := HQ1.out.size; have HO1 := hide (HOS.out.butAt (stay_part f) HQ1.out.bu hcw); have HW1 := hide (HSW.out.trans HQ1.out); have hzw1 := HW1.out.size; clear hq1)
              | (at_builtin; refine wpList_append_own_at _ rfl (.tmp 35) (.tmp 37) 22 rfl w.heap.size 47 i0 (.agg #[.string ByteArray.empty, .slice none 0 0]) 2 40 Tryd.underlying22 hi0 iz0 iz1 iz2 rfl (by decide) _ n _ rfl (HO1.out.choose_spec.1.alloc _) ⟨w1.heap.size, 0, none⟩ 1 1 [.string x, .slice none 0 0] rfl rfl (cells_new w1 [.string x, .slice none 0 0] _) (by intro u hu; simp at hu; rcases hu with rfl | rfl <;> rfl) (by unfold maxLen; omega) (by omega) (by simp; try omega) ?_; intro v1 w4 hown1 hg1 _ hv1; obtain ⟨ao, cp, rfl⟩ := own_sliceP hown1; have HQ4 := hide (HW1.out.grown hg1 HO1.out.lt (Nat.le_refl _) hcw); have HO4 := hide (OwnT.push1 (stay_part f) HO1.out rfl (part_bare (by unfold maxLen; omega)) hown1 hg1 hv1); clear hown1 hg1 hv1)
              | (go_at_call 38; ((with_reducible refine (HI2.out _ HQ4.out.box).mono ?_)); rintro r w5 ⟨rfl, hq5⟩; have HQ5 := hide (HQ4.out.trans hq5); have HO5 := hide (HO4.out.butAt (stay_part f) hq5.bu hcw); have c1 := HQ5.out.c1; have f1 := HQ5.out.f1; clear hq5)
              | (go_at_call 36; refine (HID.out _ HQ5.out.step.box).mono ?_; rintro r w6 ⟨rfl, hq6⟩; have HQ6 := hide (HQ5.out.step.trans hq6); have HO6 := hide (HO5.out.butAt (stay_part f) ((ButAt.set w5 1 _).trans hq6.bu) hcw); clear hq6))
            go_roundw
            case rel => exact .inl ⟨n + 1, g, m, _, _, HO6.out, rfl, ext_size _ _ _ hs, by omega, hil, by omega, HE.out.symm, HQ6.out⟩
            case measure => rw [HMS.out, onOf_on HQ6.out, atOf_pb HQ6.out, Nat.one_mul]; omega
      · have HI1 := hide (show ∀ W, W.heap[c]? = some (.cells #[.string s, .int .i64 (i1), .int .i64 (-1)] 86 (0, 0)) → Calls Tryd.prog 38 #[.pointer (some ⟨c, 0, none⟩), .int .u8 60] W fun e w' => e = .returned (.bool true) ∧ Pb c 86 s i1 (-1) W w' from fun W h => nIs_yes c s i1 60 W hs hx hv1 h)
        have hlt1 : i1 < s.size := get_lt (isB_true hv1)
        have HTF := hide (pTys_from (pOne_from s f) (s.size + 1) [] (i1 + 1) hlt1)
        cases ht : pTys s (pOne s f) (s.size + 1) [] (i1 + 1) with
        | bad e =>
          have HE := hide (HRW.out.symm.trans (pParts_bad (pArgs_bad hv1 ht)))
          have HIF := hide (show ∀ (k : Nat) W, W.heap[c]? = some (.cells #[.string s, .int .i64 k, .int .i64 (e : Nat)] 86 (0, 0)) → Calls Tryd.prog 38 #[.pointer (some ⟨c, 0, none⟩), .int .u8 46] W fun r w' => r = .returned (.bool false) ∧ Pb c 86 s k (e : Nat) W w' from fun k W h => nIs_off c s k e 46 W (by omega) h)
          have HTB := hide (show ∀ W, W.heap[c]? = some (.cells #[.string s, .int .i64 ((i1 + 1 : Nat)), .int .i64 (-1)] 86 (0, 0)) → Calls Tryd.prog 39 #[.pointer (some ⟨c, 0, none⟩), .int .i64 d] W fun r w' => ∃ (A : Option Addr) (n q : Nat), r = .returned (.slice A n q) ∧ ∃ i : Nat, i ≤ s.size ∧ Pb c 86 s i e W w' from fun W h => (HTY.out W hlt1 h).mono fun r w' ⟨A, n, q, h1, _, _, h2, _⟩ => ⟨A, n, q, h1, h2.bad ht⟩)
          clear ht hv1
          go_wp2_with (first
            | (go_at_call 38; ((with_reducible refine (HI1.out _ HSA.out.box).mono ?_)); rintro r w1 ⟨rfl, hq1⟩; have HQ1 := hide (HSA.out.trans hq1); have HX1 := hide (hq1.bu.keep _ _ HXB.out HNX.out); have x0 : w1.cell? ⟨wS.heap.size, 0, none⟩ = some (.string x) := (block_cell HX1.out 0).trans rfl; have x1 : w1.cell? ⟨wS.heap.size, 1, none⟩ = some (.slice none 0 0) := (block_cell HX1.out 1).trans rfl; have xf1 : w1.frozen? ⟨wS.heap.size, 1, none⟩ = false := block_free HX1.out 1; have c1 := HQ1.out.c1; have f1 := HQ1.out.f1; have hz1 := HQ1.out.size; have HO1 := hide (HOS.out.butAt (stay_part f) HQ1.out.bu hcw); have HW1 := hide (HSW.out.trans HQ1.out); have hzw1 := HW1.out.size; clear hq1)
            | (go_at_call 39; refine (HTB.out _ HQ1.out.step.box).mono ?_; rintro r w2 ⟨A2, n2, q2, rfl, y, hy, hq2⟩; have HQ2 := hide (HQ1.out.step.trans hq2); have HX2 := hide (hq2.bu.keep _ _ (block_set_other HX1.out _ _ HNX.out) HNX.out); have x0 : w2.cell? ⟨wS.heap.size, 0, none⟩ = some (.string x) := (block_cell HX2.out 0).trans rfl; have x1 : w2.cell? ⟨wS.heap.size, 1, none⟩ = some (.slice none 0 0) := (block_cell HX2.out 1).trans rfl; have xf1 : w2.frozen? ⟨wS.heap.size, 1, none⟩ = false := block_free HX2.out 1; clear hq2)
            | (go_at_call 37; refine (nTake_offP c s ⟨#[62]⟩ y e _ (by omega) (by decide) (by decide) (HQ2.out.other (j := 1) (Nat.le_refl _) HCS.out (.slice A2 n2 q2)).box).mono ?_; rintro r w3 ⟨rfl, hq3⟩; have HQ3 := hide ((HQ2.out.other (j := 1) (Nat.le_refl _) HCS.out (.slice A2 n2 q2)).trans hq3); have HX3 := hide (hq3.bu.keep _ _ (block_set HX2.out (i := 1) (.slice A2 n2 q2)) HNX.out); have x0 : w3.cell? ⟨wS.heap.size, 0, none⟩ = some (.string x) := (block_cell HX3.out 0).trans rfl; have x1 : w3.cell? ⟨wS.heap.size, 1, none⟩ = some (.slice A2 n2 q2) := (block_cell HX3.out 1).trans rfl; have HO3 := hide (HOS.out.butAt (stay_part f) HQ3.out.bu hcw); have HW3 := hide (HSW.out.trans HQ3.out); have hzw3 := HW3.out.size; clear hq3)
            | (at_builtin; refine wpList_append_own_at _ rfl (.tmp 35) (.tmp 37) 22 rfl w.heap.size 47 i0 (.agg #[.string ByteArray.empty, .slice none 0 0]) 2 40 Tryd.underlying22 hi0 iz0 iz1 iz2 rfl (by decide) _ n _ rfl (HO3.out.choose_spec.1.alloc _) ⟨w3.heap.size, 0, none⟩ 1 1 [.string x, .slice A2 n2 q2] rfl rfl (cells_new w3 [.string x, .slice A2 n2 q2] _) (by intro u hu; simp at hu; rcases hu with rfl | rfl <;> rfl) (by unfold maxLen; omega) (by omega) (by simp; try omega) ?_; intro v1 w4 hown1 hg1 _ hv1; obtain ⟨ao, cp, rfl⟩ := own_sliceP hown1; have HQ4 := hide (HW3.out.grown hg1 HO3.out.lt (Nat.le_refl _) hcw); clear hown1 hg1 hv1)
            | (go_at_call 38; ((with_reducible refine (HIF.out _ _ HQ4.out.box).mono ?_)); rintro r w5 ⟨rfl, hq5⟩; have HQ5 := hide (HQ4.out.trans hq5); clear hq5))
          go_ret
          exact ⟨ao, n + 1, cp, rfl, After.of_bad HE.out hy HQ5.out, fun j l h => by rw [HE.out] at h; cases h⟩
        | ok y l =>
          have hyy : i1 + 1 ≤ y ∧ y ≤ s.size := by have := HTF.out; rw [ht] at this; exact this
          have hyl := hyy.1
          have hys := hyy.2
          have HTG := hide (show ∀ W, W.heap[c]? = some (.cells #[.string s, .int .i64 ((i1 + 1 : Nat)), .int .i64 (-1)] 86 (0, 0)) → Calls Tryd.prog 39 #[.pointer (some ⟨c, 0, none⟩), .int .i64 d] W fun r w' => ∃ (A : Option Addr) (n q : Nat), r = .returned (.slice A n q) ∧ Pb c 86 s y (-1) W w' ∧ TysNew f W w' A n q l from fun W h => (HTY.out W hlt1 h).mono fun r w' ⟨A, n, q, h1, _, _, h2, h3⟩ => ⟨A, n, q, h1, h2.ok ht, h3 _ _ ht⟩)
          clear hyy
          cases hk : needB s [62] y with
          | bad e =>
            have HE := hide (HRW.out.symm.trans (pParts_bad (pArgs_no hv1 ht hk)))
            have HIF := hide (show ∀ (k : Nat) W, W.heap[c]? = some (.cells #[.string s, .int .i64 k, .int .i64 (e : Nat)] 86 (0, 0)) → Calls Tryd.prog 38 #[.pointer (some ⟨c, 0, none⟩), .int .u8 46] W fun r w' => r = .returned (.bool false) ∧ Pb c 86 s k (e : Nat) W w' from fun k W h => nIs_off c s k e 46 W (by omega) h)
            have HKB := hide (show ∀ W, W.heap[c]? = some (.cells #[.string s, .int .i64 (y), .int .i64 (-1)] 86 (0, 0)) → Calls Tryd.prog 37 #[.pointer (some ⟨c, 0, none⟩), .string ⟨#[62]⟩] W fun r w' => r = .returned (.tuple #[]) ∧ ∃ i : Nat, i ≤ s.size ∧ Pb c 86 s i e W w' from fun W h => (nTake_on c s ⟨#[62]⟩ y W hs (by decide) hys h).mono fun r w' ⟨h1, h2⟩ => ⟨h1, h2.bad hk⟩)
            clear ht hv1 hk
            go_wp2_with (first
              | (go_at_call 38; ((with_reducible refine (HI1.out _ HSA.out.box).mono ?_)); rintro r w1 ⟨rfl, hq1⟩; have HQ1 := hide (HSA.out.trans hq1); have HX1 := hide (hq1.bu.keep _ _ HXB.out HNX.out); have x0 : w1.cell? ⟨wS.heap.size, 0, none⟩ = some (.string x) := (block_cell HX1.out 0).trans rfl; have x1 : w1.cell? ⟨wS.heap.size, 1, none⟩ = some (.slice none 0 0) := (block_cell HX1.out 1).trans rfl; have xf1 : w1.frozen? ⟨wS.heap.size, 1, none⟩ = false := block_free HX1.out 1; have c1 := HQ1.out.c1; have f1 := HQ1.out.f1; have hz1 := HQ1.out.size; have HO1 := hide (HOS.out.butAt (stay_part f) HQ1.out.bu hcw); have HW1 := hide (HSW.out.trans HQ1.out); have hzw1 := HW1.out.size; clear hq1)
              | (go_at_call 39; refine (HTG.out _ HQ1.out.step.box).mono ?_; rintro r w2 ⟨A2, n2, q2, rfl, hq2, htn⟩; have HTN := hide htn; have HQ2 := hide (HQ1.out.step.trans hq2); have HX2 := hide (hq2.bu.keep _ _ (block_set_other HX1.out _ _ HNX.out) HNX.out); have x0 : w2.cell? ⟨wS.heap.size, 0, none⟩ = some (.string x) := (block_cell HX2.out 0).trans rfl; have x1 : w2.cell? ⟨wS.heap.size, 1, none⟩ = some (.slice none 0 0) := (block_cell HX2.out 1).trans rfl; have xf1 : w2.frozen? ⟨wS.heap.size, 1, none⟩ = false := block_free HX2.out 1; clear hq2 htn)
              | (go_at_call 37; refine (HKB.out _ (HQ2.out.other (j := 1) (Nat.le_refl _) HCS.out (.slice A2 n2 q2)).box).mono ?_; rintro r w3 ⟨rfl, z, hz3, hq3⟩; have HQ3 := hide ((HQ2.out.other (j := 1) (Nat.le_refl _) HCS.out (.slice A2 n2 q2)).trans hq3); have HX3 := hide (hq3.bu.keep _ _ (block_set HX2.out (i := 1) (.slice A2 n2 q2)) HNX.out); have x0 : w3.cell? ⟨wS.heap.size, 0, none⟩ = some (.string x) := (block_cell HX3.out 0).trans rfl; have x1 : w3.cell? ⟨wS.heap.size, 1, none⟩ = some (.slice A2 n2 q2) := (block_cell HX3.out 1).trans rfl; have HO3 := hide (HOS.out.butAt (stay_part f) HQ3.out.bu hcw); have HW3 := hide (HSW.out.trans HQ3.out); have hzw3 := HW3.out.size; clear hq3)
              | (at_builtin; refine wpList_append_own_at _ rfl (.tmp 35) (.tmp 37) 22 rfl w.heap.size 47 i0 (.agg #[.string ByteArray.empty, .slice none 0 0]) 2 40 Tryd.underlying22 hi0 iz0 iz1 iz2 rfl (by decide) _ n _ rfl (HO3.out.choose_spec.1.alloc _) ⟨w3.heap.size, 0, none⟩ 1 1 [.string x, .slice A2 n2 q2] rfl rfl (cells_new w3 [.string x, .slice A2 n2 q2] _) (by intro u hu; simp at hu; rcases hu with rfl | rfl <;> rfl) (by unfold maxLen; omega) (by omega) (by simp; try omega) ?_; intro v1 w4 hown1 hg1 _ hv1; obtain ⟨ao, cp, rfl⟩ := own_sliceP hown1; have HQ4 := hide (HW3.out.grown hg1 HO3.out.lt (Nat.le_refl _) hcw); clear hown1 hg1 hv1)
              | (go_at_call 38; ((with_reducible refine (HIF.out _ _ HQ4.out.box).mono ?_)); rintro r w5 ⟨rfl, hq5⟩; have HQ5 := hide (HQ4.out.trans hq5); clear hq5))
            go_ret
            exact ⟨ao, n + 1, cp, rfl, After.of_bad HE.out hz3 HQ5.out, fun j l h => by rw [HE.out] at h; cases h⟩
          | ok z u =>
            have hzz := needB_ok s [62] y z u hys hk
            have hz1' : y + 1 ≤ z := by have := hzz.1; simp at this; omega
            have hz2' := hzz.2
            have HAR := hide (pArgs_ok hv1 ht hk)
            have HKG := hide (show ∀ W, W.heap[c]? = some (.cells #[.string s, .int .i64 (y), .int .i64 (-1)] 86 (0, 0)) → Calls Tryd.prog 37 #[.pointer (some ⟨c, 0, none⟩), .string ⟨#[62]⟩] W fun r w' => r = .returned (.tuple #[]) ∧ Pb c 86 s z (-1) W w' from fun W h => (nTake_on c s ⟨#[62]⟩ y W hs (by decide) hys h).mono fun r w' ⟨h1, h2⟩ => ⟨h1, h2.ok hk⟩)
            clear ht hv1 hk hzz
            obtain ⟨v2, hv2⟩ : ∃ v, isB s z 46 = v := ⟨_, rfl⟩
            cases v2
            · have HE := hide (HRW.out.symm.trans (pParts_end HAR.out hv2))
              have HI2 := hide (show ∀ W, W.heap[c]? = some (.cells #[.string s, .int .i64 (z), .int .i64 (-1)] 86 (0, 0)) → Calls Tryd.prog 38 #[.pointer (some ⟨c, 0, none⟩), .int .u8 46] W fun e w' => e = .returned (.bool false) ∧ Pb c 86 s z (-1) W w' from fun W h => nIs_no c s z 46 W hs (by omega) hv2 h)
              clear hv2
              go_wp2_with (first
                | (go_at_call 38; ((with_reducible refine (HI1.out _ HSA.out.box).mono ?_)); rintro r w1 ⟨rfl, hq1⟩; have HQ1 := hide (HSA.out.trans hq1); have HX1 := hide (hq1.bu.keep _ _ HXB.out HNX.out); have x0 : w1.cell? ⟨wS.heap.size, 0, none⟩ = some (.string x) := (block_cell HX1.out 0).trans rfl; have x1 : w1.cell? ⟨wS.heap.size, 1, none⟩ = some (.slice none 0 0) := (block_cell HX1.out 1).trans rfl; have xf1 : w1.frozen? ⟨wS.heap.size, 1, none⟩ = false := block_free HX1.out 1; have c1 := HQ1.out.c1; have f1 := HQ1.out.f1; have hz1 := HQ1.out.size; have HO1 := hide (HOS.out.butAt (stay_part f) HQ1.out.bu hcw); have HW1 := hide (HSW.out.trans HQ1.out); have hzw1 := HW1.out.size; clear hq1)
                | (go_at_call 39; refine (HTG.out _ HQ1.out.step.box).mono ?_; rintro r w2 ⟨A2, n2, q2, rfl, hq2, htn⟩; have HTN := hide htn; have HQ2 := hide (HQ1.out.step.trans hq2); have HX2 := hide (hq2.bu.keep _ _ (block_set_other HX1.out _ _ HNX.out) HNX.out); have x0 : w2.cell? ⟨wS.heap.size, 0, none⟩ = some (.string x) := (block_cell HX2.out 0).trans rfl; have x1 : w2.cell? ⟨wS.heap.size, 1, none⟩ = some (.slice none 0 0) := (block_cell HX2.out 1).trans rfl; have xf1 : w2.frozen? ⟨wS.heap.size, 1, none⟩ = false := block_free HX2.out 1; clear hq2 htn)
                | (go_at_call 37; refine (HKG.out _ (HQ2.out.other (j := 1) (Nat.le_refl _) HCS.out (.slice A2 n2 q2)).box).mono ?_; rintro r w3 ⟨rfl, hq3⟩; have HQ3 := hide ((HQ2.out.other (j := 1) (Nat.le_refl _) HCS.out (.slice A2 n2 q2)).trans hq3); have HX3 := hide (hq3.bu.keep _ _ (block_set HX2.out (i := 1) (.slice A2 n2 q2)) HNX.out); have x0 : w3.cell? ⟨wS.heap.size, 0, none⟩ = some (.string x) := (block_cell HX3.out 0).trans rfl; have x1 : w3.cell? ⟨wS.heap.size, 1, none⟩ = some (.slice A2 n2 q2) := (block_cell HX3.out 1).trans rfl; have HO3 := hide (HOS.out.butAt (stay_part f) HQ3.out.bu hcw); have HW3 := hide (HSW.out.trans HQ3.out); have hzw3 := HW3.out.size; have HPN := hide (part_new (S := fun b => w.heap.size ≤ b ∧ u7.ownBlock ≠ some b) (x := x) HTN.out (stay_set (by have h := lt_of_block HX1.out; simpa using h) (by have h := HQ1.out.lt; simpa using h) hq3.bu) (fun b hb => ⟨by have hb2 := hb; (try simp at hb2); omega, fun e => by have h2 := (HLTS.out b e).2; have hb2 := hb; (try simp at hb2); omega⟩) (by unfold maxLen; omega)); clear hq3)
                | (at_builtin; refine wpList_append_own_at _ rfl (.tmp 35) (.tmp 37) 22 rfl w.heap.size 47 i0 (.agg #[.string ByteArray.empty, .slice none 0 0]) 2 40 Tryd.underlying22 hi0 iz0 iz1 iz2 rfl (by decide) _ n _ rfl (HO3.out.choose_spec.1.alloc _) ⟨w3.heap.size, 0, none⟩ 1 1 [.string x, .slice A2 n2 q2] rfl rfl (cells_new w3 [.string x, .slice A2 n2 q2] _) (by intro u hu; simp at hu; rcases hu with rfl | rfl <;> rfl) (by unfold maxLen; omega) (by omega) (by simp; try omega) ?_; intro v1 w4 hown1 hg1 _ hv1; obtain ⟨ao, cp, rfl⟩ := own_sliceP hown1; have HQ4 := hide (HW3.out.grown hg1 HO3.out.lt (Nat.le_refl _) hcw); have HO4 := hide (OwnT.push1 (stay_part f) HO3.out rfl HPN.out hown1 hg1 hv1); clear hown1 hg1 hv1)
                | (go_at_call 38; ((with_reducible refine (HI2.out _ HQ4.out.box).mono ?_)); rintro r w5 ⟨rfl, hq5⟩; have HQ5 := hide (HQ4.out.trans hq5); have HO5 := hide (HO4.out.butAt (stay_part f) hq5.bu hcw); have c1 := HQ5.out.c1; have f1 := HQ5.out.f1; clear hq5))
              go_ret
              obtain ⟨A9, q9, h9, h91, h92, h93⟩ := HO5.out.done (stay_part f)
              simp only [Value.slice.injEq, true_and] at h9
              obtain ⟨rfl, rfl⟩ := h9
              exact ⟨_, n + 1, _, rfl, After.of_ok HE.out HQ5.out, fun j l h => by rw [HE.out] at h; cases h; exact ⟨h91, h92, h93⟩⟩
            · have HN := hide (HRW.out.symm.trans (pParts_go HAR.out hv2))
              have HI2 := hide (show ∀ W, W.heap[c]? = some (.cells #[.string s, .int .i64 (z), .int .i64 (-1)] 86 (0, 0)) → Calls Tryd.prog 38 #[.pointer (some ⟨c, 0, none⟩), .int .u8 46] W fun e w' => e = .returned (.bool true) ∧ Pb c 86 s z (-1) W w' from fun W h => nIs_yes c s z 46 W hs (by omega) hv2 h)
              have hjlt : z < s.size := get_lt (isB_true hv2)
              clear hv2
              by_cases hid : idL s (z + 1) = 0
              · have HE := hide (HN.out.trans (pNext_bad hid))
                have HID := hide (show ∀ W, W.heap[c]? = some (.cells #[.string s, .int .i64 ((z + 1 : Nat)), .int .i64 (-1)] 86 (0, 0)) → Calls Tryd.prog 36 #[.pointer (some ⟨c, 0, none⟩)] W fun e w' => e = .returned (.string (s.extract (z + 1) (z + 1 + idL s (z + 1)))) ∧ Pb c 86 s ((z + 1 : Nat) : Int) ((z + 1 : Nat) : Int) W w' from fun W h => by have h1 := nIdent_onP c s (z + 1) W hs (by omega) h; rw [idWr, if_pos hid] at h1; simpa only [hid, Nat.add_zero] using h1)
                clear hid
                go_wp2_with (first
                  | (go_at_call 38; ((with_reducible refine (HI1.out _ HSA.out.box).mono ?_)); rintro r w1 ⟨rfl, hq1⟩; have HQ1 := hide (HSA.out.trans hq1); have HX1 := hide (hq1.bu.keep _ _ HXB.out HNX.out); have x0 : w1.cell? ⟨wS.heap.size, 0, none⟩ = some (.string x) := (block_cell HX1.out 0).trans rfl; have x1 : w1.cell? ⟨wS.heap.size, 1, none⟩ = some (.slice none 0 0) := (block_cell HX1.out 1).trans rfl; have xf1 : w1.frozen? ⟨wS.heap.size, 1, none⟩ = false := block_free HX1.out 1; have c1 := HQ1.out.c1; have f1 := HQ1.out.f1; have hz1 := HQ1.out.size; have HO1 := hide (HOS.out.butAt (stay_part f) HQ1.out.bu hcw); have HW1 := hide (HSW.out.trans HQ1.out); have hzw1 := HW1.out.size; clear hq1)
                  | (go_at_call 39; refine (HTG.out _ HQ1.out.step.box).mono ?_; rintro r w2 ⟨A2, n2, q2, rfl, hq2, htn⟩; have HTN := hide htn; have HQ2 := hide (HQ1.out.step.trans hq2); have HX2 := hide (hq2.bu.keep _ _ (block_set_other HX1.out _ _ HNX.out) HNX.out); have x0 : w2.cell? ⟨wS.heap.size, 0, none⟩ = some (.string x) := (block_cell HX2.out 0).trans rfl; have x1 : w2.cell? ⟨wS.heap.size, 1, none⟩ = some (.slice none 0 0) := (block_cell HX2.out 1).trans rfl; have xf1 : w2.frozen? ⟨wS.heap.size, 1, none⟩ = false := block_free HX2.out 1; clear hq2 htn)
                  | (go_at_call 37; refine (HKG.out _ (HQ2.out.other (j := 1) (Nat.le_refl _) HCS.out (.slice A2 n2 q2)).box).mono ?_; rintro r w3 ⟨rfl, hq3⟩; have HQ3 := hide ((HQ2.out.other (j := 1) (Nat.le_refl _) HCS.out (.slice A2 n2 q2)).trans hq3); have HX3 := hide (hq3.bu.keep _ _ (block_set HX2.out (i := 1) (.slice A2 n2 q2)) HNX.out); have x0 : w3.cell? ⟨wS.heap.size, 0, none⟩ = some (.string x) := (block_cell HX3.out 0).trans rfl; have x1 : w3.cell? ⟨wS.heap.size, 1, none⟩ = some (.slice A2 n2 q2) := (block_cell HX3.out 1).trans rfl; have HO3 := hide (HOS.out.butAt (stay_part f) HQ3.out.bu hcw); have HW3 := hide (HSW.out.trans HQ3.out); have hzw3 := HW3.out.size; have HPN := hide (part_new (S := fun b => w.heap.size ≤ b ∧ u7.ownBlock ≠ some b) (x := x) HTN.out (stay_set (by have h := lt_of_block HX1.out; simpa using h) (by have h := HQ1.out.lt; simpa using h) hq3.bu) (fun b hb => ⟨by have hb2 := hb; (try simp at hb2); omega, fun e => by have h2 := (HLTS.out b e).2; have hb2 := hb; (try simp at hb2); omega⟩) (by unfold maxLen; omega)); clear hq3)
                  | (at_builtin; refine wpList_append_own_at _ rfl (.tmp 35) (.tmp 37) 22 rfl w.heap.size 47 i0 (.agg #[.string ByteArray.empty, .slice none 0 0]) 2 40 Tryd.underlying22 hi0 iz0 iz1 iz2 rfl (by decide) _ n _ rfl (HO3.out.choose_spec.1.alloc _) ⟨w3.heap.size, 0, none⟩ 1 1 [.string x, .slice A2 n2 q2] rfl rfl (cells_new w3 [.string x, .slice A2 n2 q2] _) (by intro u hu; simp at hu; rcases hu with rfl | rfl <;> rfl) (by unfold maxLen; omega) (by omega) (by simp; try omega) ?_; intro v1 w4 hown1 hg1 _ hv1; obtain ⟨ao, cp, rfl⟩ := own_sliceP hown1; have HQ4 := hide (HW3.out.grown hg1 HO3.out.lt (Nat.le_refl _) hcw); have HO4 := hide (OwnT.push1 (stay_part f) HO3.out rfl HPN.out hown1 hg1 hv1); clear hown1 hg1 hv1)
                  | (go_at_call 38; ((with_reducible refine (HI2.out _ HQ4.out.box).mono ?_)); rintro r w5 ⟨rfl, hq5⟩; have HQ5 := hide (HQ4.out.trans hq5); have HO5 := hide (HO4.out.butAt (stay_part f) hq5.bu hcw); have c1 := HQ5.out.c1; have f1 := HQ5.out.f1; clear hq5)
                  | (go_at_call 36; refine (HID.out _ HQ5.out.step.box).mono ?_; rintro r w6 ⟨rfl, hq6⟩; have HQ6 := hide (HQ5.out.step.trans hq6); clear hq6))
                go_roundw
                case rel => exact .inr ⟨ao, n + 1, cp, z + 1, z + 1, _, rfl, rfl, HE.out, by omega, HQ6.out⟩
                case measure => rw [HMS.out, onOf_off HQ6.out, Nat.zero_mul]; omega
              · have HE := hide (HN.out.trans (pNext_go hid))
                have hil := idL_le s (z + 1) (by omega)
                have HID := hide (show ∀ W, W.heap[c]? = some (.cells #[.string s, .int .i64 ((z + 1 : Nat)), .int .i64 (-1)] 86 (0, 0)) → Calls Tryd.prog 36 #[.pointer (some ⟨c, 0, none⟩)] W fun e w' => e = .returned (.string (s.extract (z + 1) (z + 1 + idL s (z + 1)))) ∧ Pb c 86 s ((z + 1 + idL s (z + 1) : Nat) : Int) (-1) W w' from fun W h => by have h1 := nIdent_onP c s (z + 1) W hs (by omega) h; rwa [idWr, if_neg hid] at h1)
                obtain ⟨m, hm⟩ : ∃ m, z + 1 + idL s (z + 1) = m := ⟨_, rfl⟩
                rw [hm] at HID HE hil
                have hml : z + 1 ≤ m := by omega
                clear hid hm
                go_wp2_with (first
                  | (go_at_call 38; ((with_reducible refine (HI1.out _ HSA.out.box).mono ?_)); rintro r w1 ⟨rfl, hq1⟩; have HQ1 := hide (HSA.out.trans hq1); have HX1 := hide (hq1.bu.keep _ _ HXB.out HNX.out); have x0 : w1.cell? ⟨wS.heap.size, 0, none⟩ = some (.string x) := (block_cell HX1.out 0).trans rfl; have x1 : w1.cell? ⟨wS.heap.size, 1, none⟩ = some (.slice none 0 0) := (block_cell HX1.out 1).trans rfl; have xf1 : w1.frozen? ⟨wS.heap.size, 1, none⟩ = false := block_free HX1.out 1; have c1 := HQ1.out.c1; have f1 := HQ1.out.f1; have hz1 := HQ1.out.size; have HO1 := hide (HOS.out.butAt (stay_part f) HQ1.out.bu hcw); have HW1 := hide (HSW.out.trans HQ1.out); have hzw1 := HW1.out.size; clear hq1)
                  | (go_at_call 39; refine (HTG.out _ HQ1.out.step.box).mono ?_; rintro r w2 ⟨A2, n2, q2, rfl, hq2, htn⟩; have HTN := hide htn; have HQ2 := hide (HQ1.out.step.trans hq2); have HX2 := hide (hq2.bu.keep _ _ (block_set_other HX1.out _ _ HNX.out) HNX.out); have x0 : w2.cell? ⟨wS.heap.size, 0, none⟩ = some (.string x) := (block_cell HX2.out 0).trans rfl; have x1 : w2.cell? ⟨wS.heap.size, 1, none⟩ = some (.slice none 0 0) := (block_cell HX2.out 1).trans rfl; have xf1 : w2.frozen? ⟨wS.heap.size, 1, none⟩ = false := block_free HX2.out 1; clear hq2 htn)
                  | (go_at_call 37; refine (HKG.out _ (HQ2.out.other (j := 1) (Nat.le_refl _) HCS.out (.slice A2 n2 q2)).box).mono ?_; rintro r w3 ⟨rfl, hq3⟩; have HQ3 := hide ((HQ2.out.other (j := 1) (Nat.le_refl _) HCS.out (.slice A2 n2 q2)).trans hq3); have HX3 := hide (hq3.bu.keep _ _ (block_set HX2.out (i := 1) (.slice A2 n2 q2)) HNX.out); have x0 : w3.cell? ⟨wS.heap.size, 0, none⟩ = some (.string x) := (block_cell HX3.out 0).trans rfl; have x1 : w3.cell? ⟨wS.heap.size, 1, none⟩ = some (.slice A2 n2 q2) := (block_cell HX3.out 1).trans rfl; have HO3 := hide (HOS.out.butAt (stay_part f) HQ3.out.bu hcw); have HW3 := hide (HSW.out.trans HQ3.out); have hzw3 := HW3.out.size; have HPN := hide (part_new (S := fun b => w.heap.size ≤ b ∧ u7.ownBlock ≠ some b) (x := x) HTN.out (stay_set (by have h := lt_of_block HX1.out; simpa using h) (by have h := HQ1.out.lt; simpa using h) hq3.bu) (fun b hb => ⟨by have hb2 := hb; (try simp at hb2); omega, fun e => by have h2 := (HLTS.out b e).2; have hb2 := hb; (try simp at hb2); omega⟩) (by unfold maxLen; omega)); clear hq3)
                  | (at_builtin; refine wpList_append_own_at _ rfl (.tmp 35) (.tmp 37) 22 rfl w.heap.size 47 i0 (.agg #[.string ByteArray.empty, .slice none 0 0]) 2 40 Tryd.underlying22 hi0 iz0 iz1 iz2 rfl (by decide) _ n _ rfl (HO3.out.choose_spec.1.alloc _) ⟨w3.heap.size, 0, none⟩ 1 1 [.string x, .slice A2 n2 q2] rfl rfl (cells_new w3 [.string x, .slice A2 n2 q2] _) (by intro u hu; simp at hu; rcases hu with rfl | rfl <;> rfl) (by unfold maxLen; omega) (by omega) (by simp; try omega) ?_; intro v1 w4 hown1 hg1 _ hv1; obtain ⟨ao, cp, rfl⟩ := own_sliceP hown1; have HQ4 := hide (HW3.out.grown hg1 HO3.out.lt (Nat.le_refl _) hcw); have HO4 := hide (OwnT.push1 (stay_part f) HO3.out rfl HPN.out hown1 hg1 hv1); clear hown1 hg1 hv1)
                  | (go_at_call 38; ((with_reducible refine (HI2.out _ HQ4.out.box).mono ?_)); rintro r w5 ⟨rfl, hq5⟩; have HQ5 := hide (HQ4.out.trans hq5); have HO5 := hide (HO4.out.butAt (stay_part f) hq5.bu hcw); have c1 := HQ5.out.c1; have f1 := HQ5.out.f1; clear hq5)
                  | (go_at_call 36; refine (HID.out _ HQ5.out.step.box).mono ?_; rintro r w6 ⟨rfl, hq6⟩; have HQ6 := hide (HQ5.out.step.trans hq6); have HO6 := hide (HO5.out.butAt (stay_part f) ((ButAt.set w5 1 _).trans hq6.bu) hcw); clear hq6))
                go_roundw
                case rel => exact .inl ⟨n + 1, g, m, _, _, HO6.out, rfl, ext_size _ _ _ hs, by omega, hil, by omega, HE.out.symm, HQ6.out⟩
                case measure => rw [HMS.out, onOf_on HQ6.out, atOf_pb HQ6.out, Nat.one_mul]; omega
    · have c2 := hp.c2
      have HQ := hide hp
      have HR := hide hR
      clear hp hR
      have hoff : decide (((e : Nat) : Int) < 0) = false := by simp
      go_wp2_with (fail)
      go_ret
      exact ⟨A, n, q, rfl, After.of_bad HR.out hx HQ.out, fun j l h => by rw [HR.out] at h; cases h⟩
/-- What is read where the next identifier was read, or was not. -/
def pFrom (s : ByteArray) (one : Nat → Res Ty) (g : Nat) (acc : List Part) (x : ByteArray) (i : Nat) : Res (List Part) := if x.size = 0 then pNext s one g acc i else pParts s one g acc x i
theorem pFrom_nil (s : ByteArray) (one : Nat → Res Ty) (g : Nat) (acc : List Part) (i : Nat) : pFrom s one g acc ⟨#[]⟩ i = pNext s one g acc i := if_pos rfl
theorem pFrom_some {x : ByteArray} (h : x.size ≠ 0) (s : ByteArray) (one : Nat → Res Ty) (g : Nat) (acc : List Part) (i : Nat) : pFrom s one g acc x i = pParts s one g acc x i := if_neg h
end Go.Proofs.YtocpmbpckbjepaaDoor
