/- What the program reads of rules: readMatch. -/
import Derived.Test.YtomihkflhhhpjaaDoorGuTk
import Derived.Test.YtomihkflhhhpjaaDoorRegChain
import Derived.BigRegion
namespace Go.Proofs.YtomihkflhhhpjaaDoor
open Go.RowKit
set_option linter.unusedVariables false
set_option linter.unusedSimpArgs false
/-- The words of the program's two tables. -/
def wM : Nat → List UInt8
  | 1 => [102, 117, 110, 99, 58]
  | 2 => [109, 111, 100, 117, 108, 101, 58]
  | 3 => [102, 105, 108, 101, 58]
  | 4 => [107, 105, 110, 100, 58]
  | 5 => [115, 97, 121, 58]
  | 6 => [111, 119, 110]
  | _ => []
def wA : Nat → List UInt8
  | 1 => [111, 119, 110]
  | 2 => [45, 111, 119, 110]
  | 3 => [104, 105, 100, 101]
  | 4 => [115, 104, 111, 119]
  | 5 => [109, 111, 115, 116, 61]
  | 6 => [107, 101, 121, 61]
  | _ => []
def rdOn (W : Nat → List UInt8) (l : List UInt8) : Nat → Nat → Option (Nat × List UInt8)
  | _, 0 => none
  | k, f + 1 => match cutP (W k) l with
    | some r => some (k, r)
    | none => rdOn W l (k + 1) f
theorem rdOn_hit {W : Nat → List UInt8} {l r : List UInt8} {k f : Nat} (h : cutP (W k) l = some r) : rdOn W l k (f + 1) = some (k, r) := by rw [rdOn, h]
theorem rdOn_miss {W : Nat → List UInt8} {l : List UInt8} {k f : Nat} (h : cutP (W k) l = none) : rdOn W l k (f + 1) = rdOn W l (k + 1) f := by rw [rdOn, h]
def rdM (l : List UInt8) : Option (Mt × List UInt8) :=
  match rdOn wM ((cutP [33] l).getD l) 1 6 with
  | none => none
  | some (k, r) => if k = 6 then some (⟨6, (cutP [33] l).isSome, ⟨#[]⟩⟩, r) else (rdQ r).map fun x => (⟨k, (cutP [33] l).isSome, bs x.1⟩, x.2)
/-- A table of the program's lies in w. -/
def Tab (g : Nat) (W : Nat → List UInt8) (w : World) : Prop := g < w.heap.size ∧ ∀ i, i < 7 → w.cell? ⟨g, i, none⟩ = some (.string (bs (W i)))
theorem Tab.but {g q : Nat} {W : Nat → List UInt8} {w w' : World} (h : Tab g W w) (hb : ButAt q w w') (hq : g ≠ q) : Tab g W w' := by
  refine ⟨Nat.lt_of_lt_of_le h.1 hb.be.size, fun i hi => ?_⟩
  obtain ⟨o, ho⟩ : ∃ o, w.heap[g]? = some o := ⟨_, Array.getElem?_eq_getElem h.1⟩
  have h1 := h.2 i hi
  have h2 := hb.keep g o ho hq
  simp only [World.cell?, ho] at h1
  simp only [World.cell?, h2]
  exact h1
theorem cutP_len {p l r : List UInt8} (h : cutP p l = some r) : r.length + p.length = l.length := by
  unfold cutP at h
  split at h
  · rename_i h9
    have h8 := (List.isPrefixOf_iff_prefix.1 h9).length_le
    rw [← Option.some.inj h, List.length_drop]
    omega
  · cases h
theorem tsz (t : ByteArray) : t.data.toList.length = t.size := by rw [Array.length_toList]; rfl
theorem bs_size (l : List UInt8) : (bs l).size = l.length := by rw [← tsz, bs_list]
theorem ButAt.setnew {q m i : Nat} {w wr : World} (h : ButAt q w wr) (hm : w.heap.size ≤ m) (hq : q ≤ m) (u : Value) : ButAt q w (wr.setCell ⟨m, i, none⟩ u) :=
  ⟨h.be.setCell (p := ⟨m, i, none⟩) hq _, fun k o e ne => block_set_other (h.keep k o e ne) _ _ (show k ≠ m by have := lt_of_block e; omega)⟩
theorem ButAt.drew9 {q : Nat} {w wr : World} (h : ButAt q w wr) : ButAt q w wr.drew := ⟨h.be.drew, fun k o e ne => h.keep k o e ne⟩
/-- What readMatch answers. -/
def RMt (q : Nat) (l : List UInt8) (e : Ending) (w w' : World) : Prop := ButAt q w w' ∧ ∃ t' : ByteArray, QB q t' w' ∧ t'.size ≤ l.length ∧
  ((rdM l = none ∧ ∃ m : Mt, e = .returned (.tuple #[.agg #[.int .i64 m.on, .bool m.no, .string m.glob], .bool false])) ∨
    ∃ m r, rdM l = some (m, r) ∧ e = .returned (.tuple #[.agg #[.int .i64 m.on, .bool m.no, .string m.glob], .bool true]) ∧ t'.data.toList = r ∧ m.glob.size ≤ l.length)
/-- What the search for a word keeps. -/
def OnI (W : Nat → List UInt8) (q mb : Nat) (l : List UInt8) (fs : List Value) (ty : TypeId) (w0 : World) (i : Int) (wr : World) : Prop :=
  ∃ k f : Nat, i = (k : Int) ∧ k + f = 7 ∧ 1 ≤ k ∧ ButAt q w0 wr ∧
    ((rdOn W l 1 6 = rdOn W l k f ∧ QB q (bs l) wr ∧ wr.heap[mb]? = some (.cells (.int .i64 0 :: fs).toArray ty (0, 0))) ∨
      ∃ j r, 1 ≤ j ∧ j ≤ 6 ∧ rdOn W l 1 6 = some (j, r) ∧ cutP (W j) l = some r ∧ QB q (bs r) wr ∧ wr.heap[mb]? = some (.cells (.int .i64 (j : Int) :: fs).toArray ty (0, 0)))
set_option maxRecDepth 100000 in
set_option maxHeartbeats 8000000 in
theorem readMatch_any {q : Nat} {t : ByteArray} {w : World} (h : QB q t w) (ht : t.size ≤ 1000000) (hT : Tab 0 wM w) (hg : 0 ≠ q) :
    Calls Tryd.prog 34 #[.pointer (some ⟨q, 0, none⟩)] w fun e w' => RMt q t.data.toList e w w' := by
  have hql := h.cell.2.2
  have htl := tsz t
  obtain ⟨wa, hwa⟩ : ∃ wa, w.alloc (.cells #[.int .i64 0, .bool false, .string ⟨#[]⟩] 53) = wa := ⟨_, rfl⟩
  have hba : Below w.heap.size w wa := hwa ▸ (Below.refl _ _).alloc (Nat.le_refl _) _
  have hra : wa.heap[w.heap.size]? = some (.cells #[.int .i64 0, .bool false, .string ⟨#[]⟩] 53 (0, 0)) := hwa ▸ heap_alloc_new w _
  have HQA := hide (h.below hba hql)
  have HBA := hide hba
  obtain ⟨l1, hl1⟩ : ∃ l1, (cutP [33] t.data.toList).getD t.data.toList = l1 := ⟨_, rfl⟩
  obtain ⟨no, hno⟩ : ∃ no, (cutP [33] t.data.toList).isSome = no := ⟨_, rfl⟩
  have CT := hide (show Calls Tryd.prog 33 #[.pointer (some ⟨q, 0, none⟩), .string ⟨#[33]⟩] wa fun e w' => e = .returned (.bool no) ∧ QB q (bs l1) w' ∧ ButAt q wa w' from by
    cases hp : cutP [33] t.data.toList with
    | none =>
      rw [hp] at hl1 hno
      refine (takeF HQA.out ⟨#[33]⟩ hp).mono ?_
      rintro e w1 ⟨rfl, rfl⟩
      refine ⟨by rw [← hno]; rfl, ?_, ButAt.refl _ _⟩
      rw [← hl1]
      show QB q (bs t.data.toList) w1
      rw [bs_of]
      exact HQA.out
    | some r =>
      rw [hp] at hl1 hno
      refine (takeT HQA.out ⟨#[33]⟩ hp).mono ?_
      rintro e w1 ⟨rfl, rfl⟩
      refine ⟨by rw [← hno]; rfl, ?_, (ButAt.refl _ _).setq _⟩
      rw [← hl1]
      exact HQA.out.set _)
  have hll : l1.length ≤ t.data.toList.length := by
    rw [← hl1]
    cases hp : cutP [33] t.data.toList with
    | none => exact Nat.le_refl _
    | some r => have := cutP_len hp; simp; omega
  have HRD := hide (show rdM t.data.toList = match rdOn wM l1 1 6 with
      | none => none
      | some (k, r) => if k = 6 then some (⟨6, no, ⟨#[]⟩⟩, r) else (rdQ r).map fun x => (⟨k, no, bs x.1⟩, x.2) by rw [rdM, hl1, hno])
  clear hl1 hno
  have HWA := hide hwa
  have HRA := hide hra
  have HT := hide hT
  clear hwa hra hba
  go_enter Tryd.func34, Tryd.ntmps34
  go_wp2_with (fail)
  rw [HWA.out]
  refine CT.out.mono ?_
  rintro e w1 ⟨rfl, hq1, hb1⟩
  have HB1 := hide (show ButAt q w w1 from (ButAt.of_below HBA.out (Nat.le_of_lt hql)).trans hb1)
  obtain ⟨mb, hmb⟩ : ∃ mb, w1.heap.size = mb := ⟨_, rfl⟩
  obtain ⟨w2, hw2⟩ : ∃ w2, w1.alloc (.cells #[.int .i64 0, .bool no, .string ⟨#[]⟩] 53) = w2 := ⟨_, rfl⟩
  have HRB := hide (show w1.heap[w.heap.size]? = some (.cells #[.int .i64 0, .bool false, .string ⟨#[]⟩] 53 (0, 0)) from hb1.keep _ _ HRA.out (by omega))
  have hrm : w.heap.size < mb := by have := lt_of_block HRB.out; omega
  have hqm : q < mb := by omega
  have HM2 := hide (show w2.heap[mb]? = some (.cells #[.int .i64 0, .bool no, .string ⟨#[]⟩] 53 (0, 0)) from hw2 ▸ hmb ▸ heap_alloc_new w1 _)
  have hb2 : Below w1.heap.size w1 w2 := hw2 ▸ (Below.refl _ _).alloc (Nat.le_refl _) _
  have HQ2 := hide (hq1.below hb2 (by omega))
  have HB2 := hide (show ButAt q w1 w2 from ButAt.of_below hb2 (by omega))
  have HW2 := hide hw2
  have HMB := hide hmb
  have HT1 := hide (HT.out.but HB1.out hg)
  clear hw2 hb2 hq1 hb1 hmb
  go_wp2_with (fail)
  (try rw [HMB.out]); (try rw [HW2.out])
  go_loopw [5] (fun ti wr => ∃ i : Int, ti = .int .i64 i ∧ OnI wM q mb l1 [.bool no, .string ⟨#[]⟩] 53 w1 i wr) (fun ti _ => 7 - (intOf ti).toNat)
  case atStart => exact ⟨1, rfl, 1, 6, rfl, rfl, Nat.le_refl _, HB2.out, .inl ⟨rfl, HQ2.out, HM2.out⟩⟩
  case round =>
    obtain ⟨i, rfl, k, f, rfl, hkf, hk1, hbu, hst⟩ := hrel
    have HBU := hide hbu
    have HTR := hide (HT1.out.but hbu hg)
    have HRR := hide (hbu.keep _ _ HRB.out (by omega))
    have hmz : mb ≤ wr.heap.size := by have := hbu.be.size; have := HMB.out; omega
    clear hbu
    rcases hst with ⟨hon, hq, hm⟩ | ⟨j, r, hj1, hj6, hon, hcp, hq, hm⟩
    · obtain ⟨c0, f0, _⟩ := hq.cell
      have m0 : wr.cell? ⟨mb, 0, none⟩ = some (.int .i64 0) := (block_cell hm 0).trans rfl
      have m1 : wr.cell? ⟨mb, 1, none⟩ = some (.bool no) := (block_cell hm 1).trans rfl
      have m2 : wr.cell? ⟨mb, 2, none⟩ = some (.string ⟨#[]⟩) := (block_cell hm 2).trans rfl
      have n0 : wr.frozen? ⟨mb, 0, none⟩ = false := block_free hm 0
      have HQ := hide hq
      have HM := hide hm
      clear hq hm
      by_cases hk : k ≤ 6
      · have hk' : (k : Int) ≤ 6 := by omega
        have tk : wr.cell? ⟨0, k, none⟩ = some (.string (bs (wM k))) := HTR.out.2 k (by omega)
        obtain ⟨f9, rfl⟩ : ∃ f9, f = f9 + 1 := ⟨f - 1, by omega⟩
        cases hcp : cutP (wM k) l1 with
        | none =>
          have CT2 := hide (takeF HQ.out (bs (wM k)) (by rw [bs_list, bs_list]; exact hcp))
          have HON := hide (hon.trans (rdOn_miss hcp))
          clear hon hcp
          go_wp2_with (go_at_call 33; refine CT2.out.mono ?_; rintro e w3 ⟨rfl, hh⟩; obtain rfl := hh.symm)
          go_roundw
          case rel => exact ⟨_, by go_num, k + 1, f9, rfl, by omega, by omega, HBU.out, .inl ⟨HON.out, HQ.out, HM.out⟩⟩
          case measure => simp [intOf]; omega
        | some r =>
          have CT2 := hide (takeT HQ.out (bs (wM k)) (by rw [bs_list, bs_list]; exact hcp))
          have HON := hide (hon.trans (rdOn_hit hcp))
          have HCP := hide hcp
          clear hon hcp
          obtain ⟨w3, hw3⟩ : ∃ w3, wr.setCell ⟨q, 0, none⟩ (.string (bs r)) = w3 := ⟨_, rfl⟩
          have HQ3 := hide (show QB q (bs r) w3 from hw3 ▸ HQ.out.set _)
          have HM3 := hide (show w3.heap[mb]? = some (.cells #[.int .i64 0, .bool no, .string ⟨#[]⟩] 53 (0, 0)) from hw3 ▸ block_set_other HM.out _ _ (show mb ≠ q by omega))
          have HBU3 := hide (show ButAt q w1 w3 from hw3 ▸ HBU.out.setq _)
          have p0 : w3.cell? ⟨mb, 0, none⟩ = some (.int .i64 0) := (block_cell HM3.out 0).trans rfl
          have p1 : w3.frozen? ⟨mb, 0, none⟩ = false := block_free HM3.out 0
          rw [hw3] at CT2
          clear hw3
          go_wp2_with (go_at_call 33; refine CT2.out.mono ?_; rintro e w4 ⟨rfl, hh⟩; obtain rfl := hh.symm)
          go_roundw
          case rel => exact ⟨_, by go_num, k + 1, f9, rfl, by omega, by omega, HBU3.out.setnew (by rw [HMB.out]; exact Nat.le_refl _) (by omega) _, .inr ⟨k, r, hk1, hk, HON.out, HCP.out, block_set_other HQ3.out _ _ (show q ≠ mb by omega), block_set HM3.out _⟩⟩
          case measure => simp [intOf]; omega
      · obtain rfl : k = 7 := by omega
        obtain rfl : f = 0 := by omega
        have E := hide (show rdM t.data.toList = none by rw [HRD.out, hon]; rfl)
        clear hon
        have r0 : wr.frozen? ⟨w.heap.size, 0, none⟩ = false := block_free HRR.out 0
        have r1 : wr.frozen? ⟨w.heap.size, 1, none⟩ = false := block_free HRR.out 1
        have r2 : wr.frozen? ⟨w.heap.size, 2, none⟩ = false := block_free HRR.out 2
        have s0 : wr.cell? ⟨w.heap.size, 0, none⟩ = some (.int .i64 0) := (block_cell HRR.out 0).trans rfl
        have s1 : wr.cell? ⟨w.heap.size, 1, none⟩ = some (.bool false) := (block_cell HRR.out 1).trans rfl
        have s2 : wr.cell? ⟨w.heap.size, 2, none⟩ = some (.string ⟨#[]⟩) := (block_cell HRR.out 2).trans rfl
        have hrm' : w.heap.size ≠ mb := by omega
        go_wp2_with (fail)
        go_region
        obtain ⟨wf, hwf⟩ : ∃ wf, (((wr.setCell ⟨w.heap.size, 0, none⟩ (.int .i64 0)).setCell ⟨w.heap.size, 1, none⟩ (.bool no)).setCell ⟨w.heap.size, 2, none⟩ (.string ⟨#[]⟩)).drew = wf := ⟨_, rfl⟩
        have hbf : wf.heap[w.heap.size]? = some (.cells #[.int .i64 0, .bool no, .string ⟨#[]⟩] 53 (0, 0)) := by rw [← hwf]; exact block_set (block_set (block_set HRR.out _) _) _
        have HF := hide (show ButAt q w wf from by rw [← hwf]; exact ButAt.drew9 (((((HB1.out.trans HBU.out)).setnew (Nat.le_refl _) (by omega) _).setnew (Nat.le_refl _) (by omega) _).setnew (Nat.le_refl _) (by omega) _))
        have HQF := hide (show QB q (bs l1) wf from by rw [← hwf]; exact block_set_other (block_set_other (block_set_other HQ.out ⟨w.heap.size, 0, none⟩ _ (show q ≠ w.heap.size by omega)) ⟨w.heap.size, 1, none⟩ _ (show q ≠ w.heap.size by omega)) ⟨w.heap.size, 2, none⟩ _ (show q ≠ w.heap.size by omega))
        have z0 := (block_cell hbf 0).trans (show _ = some _ from rfl)
        have z1 := (block_cell hbf 1).trans (show _ = some _ from rfl)
        have z2 := (block_cell hbf 2).trans (show _ = some _ from rfl)
        rw [hwf]
        clear hwf hbf
        go_wp2_with (fail)
        refine bodyPost_ret (by simp [results, Tryd.results34, go_sem, z0, z1, z2]; try rfl) rfl ?_
        exact ⟨HF.out, bs l1, HQF.out, by rw [bs_size]; exact hll, .inl ⟨E.out, ⟨0, no, ⟨#[]⟩⟩, rfl⟩⟩
    · obtain ⟨c0, f0, hqw⟩ := hq.cell
      have m0 : wr.cell? ⟨mb, 0, none⟩ = some (.int .i64 (j : Int)) := (block_cell hm 0).trans rfl
      have m1 : wr.cell? ⟨mb, 1, none⟩ = some (.bool no) := (block_cell hm 1).trans rfl
      have m2 : wr.cell? ⟨mb, 2, none⟩ = some (.string ⟨#[]⟩) := (block_cell hm 2).trans rfl
      have n2 : wr.frozen? ⟨mb, 2, none⟩ = false := block_free hm 2
      have HQ := hide hq
      have HM := hide hm
      have hjz : ((j : Int) == 0) = false := beq_eq_false_iff_ne.2 (by omega)
      have hjz' : ¬ (j : Int) = 0 := by omega
      have hrl := cutP_len hcp
      have hrm' : w.heap.size ≠ mb := by omega
      clear hq hm
      by_cases hj : j = 6
      · subst hj
        have E := hide (show rdM t.data.toList = some (⟨6, no, ⟨#[]⟩⟩, r) by rw [HRD.out, hon]; simp)
        clear hon hcp hjz hjz'
        have r0 : wr.frozen? ⟨w.heap.size, 0, none⟩ = false := block_free HRR.out 0
        have r1 : wr.frozen? ⟨w.heap.size, 1, none⟩ = false := block_free HRR.out 1
        have r2 : wr.frozen? ⟨w.heap.size, 2, none⟩ = false := block_free HRR.out 2
        have s0 : wr.cell? ⟨w.heap.size, 0, none⟩ = some (.int .i64 0) := (block_cell HRR.out 0).trans rfl
        have s1 : wr.cell? ⟨w.heap.size, 1, none⟩ = some (.bool false) := (block_cell HRR.out 1).trans rfl
        have s2 : wr.cell? ⟨w.heap.size, 2, none⟩ = some (.string ⟨#[]⟩) := (block_cell HRR.out 2).trans rfl
        (by_cases hk : (k : Int) ≤ 6) <;> (
        go_wp2_with (fail)
        go_region
        obtain ⟨wf, hwf⟩ : ∃ wf, (((wr.setCell ⟨w.heap.size, 0, none⟩ (.int .i64 6)).setCell ⟨w.heap.size, 1, none⟩ (.bool no)).setCell ⟨w.heap.size, 2, none⟩ (.string ⟨#[]⟩)).drew = wf := ⟨_, rfl⟩
        have hbf : wf.heap[w.heap.size]? = some (.cells #[.int .i64 6, .bool no, .string ⟨#[]⟩] 53 (0, 0)) := by rw [← hwf]; exact block_set (block_set (block_set HRR.out _) _) _
        have HF := hide (show ButAt q w wf from by rw [← hwf]; exact ButAt.drew9 (((((HB1.out.trans HBU.out)).setnew (Nat.le_refl _) (by omega) _).setnew (Nat.le_refl _) (by omega) _).setnew (Nat.le_refl _) (by omega) _))
        have HQF := hide (show QB q (bs r) wf from by rw [← hwf]; exact block_set_other (block_set_other (block_set_other HQ.out ⟨w.heap.size, 0, none⟩ _ (show q ≠ w.heap.size by omega)) ⟨w.heap.size, 1, none⟩ _ (show q ≠ w.heap.size by omega)) ⟨w.heap.size, 2, none⟩ _ (show q ≠ w.heap.size by omega))
        have z0 := (block_cell hbf 0).trans (show _ = some _ from rfl)
        have z1 := (block_cell hbf 1).trans (show _ = some _ from rfl)
        have z2 := (block_cell hbf 2).trans (show _ = some _ from rfl)
        rw [hwf]
        clear hwf hbf
        go_wp2_with (fail)
        refine bodyPost_ret (by simp [results, Tryd.results34, go_sem, z0, z1, z2]; try rfl) rfl ?_
        exact ⟨HF.out, bs r, HQF.out, by rw [bs_size]; omega, .inr ⟨⟨6, no, ⟨#[]⟩⟩, r, E.out, rfl, bs_list r, Nat.zero_le _⟩⟩)
      · have hj6' : ((j : Int) == 6) = false := beq_eq_false_iff_ne.2 (by omega)
        have ER := hide (show rdM t.data.toList = (rdQ r).map fun x => (⟨j, no, bs x.1⟩, x.2) by rw [HRD.out, hon]; simp [hj])
        have CQ := hide (readQuoted_any HQ.out (by rw [bs_size]; omega))
        rw [bs_list] at CQ
        have hjo : 1 ≤ j ∧ j ≤ 5 := by omega
        clear hon hcp hj
        (by_cases hk : (k : Int) ≤ 6) <;> (
        go_wp2_with (fail)
        refine CQ.out.mono ?_
        rintro e w5 ⟨hb5, t5, hq5, ht5, hres⟩
        have HM5 := hide (hb5.keep _ _ HM.out (show mb ≠ q by omega))
        have HR5 := hide (hb5.keep _ _ HRR.out (show w.heap.size ≠ q by omega))
        have HB5 := hide ((HB1.out.trans HBU.out).trans hb5)
        have HQ5 := hide hq5
        have m0 : w5.cell? ⟨mb, 0, none⟩ = some (.int .i64 (j : Int)) := (block_cell HM5.out 0).trans rfl
        have m1 : w5.cell? ⟨mb, 1, none⟩ = some (.bool no) := (block_cell HM5.out 1).trans rfl
        have m2 : w5.cell? ⟨mb, 2, none⟩ = some (.string ⟨#[]⟩) := (block_cell HM5.out 2).trans rfl
        have n2 : w5.frozen? ⟨mb, 2, none⟩ = false := block_free HM5.out 2
        have r0 : w5.frozen? ⟨w.heap.size, 0, none⟩ = false := block_free HR5.out 0
        have r1 : w5.frozen? ⟨w.heap.size, 1, none⟩ = false := block_free HR5.out 1
        have r2 : w5.frozen? ⟨w.heap.size, 2, none⟩ = false := block_free HR5.out 2
        have s0 : w5.cell? ⟨w.heap.size, 0, none⟩ = some (.int .i64 0) := (block_cell HR5.out 0).trans rfl
        have s1 : w5.cell? ⟨w.heap.size, 1, none⟩ = some (.bool false) := (block_cell HR5.out 1).trans rfl
        have s2 : w5.cell? ⟨w.heap.size, 2, none⟩ = some (.string ⟨#[]⟩) := (block_cell HR5.out 2).trans rfl
        clear hb5 hq5
        rcases hres with ⟨hn, rfl⟩ | ⟨a, r9, hs, rfl, hr9, hal⟩
        · have E := hide (show rdM t.data.toList = none by rw [ER.out, hn]; rfl)
          clear hn
          have HR6 := hide (show (w5.setCell ⟨mb, 2, none⟩ (.string ⟨#[]⟩)).heap[w.heap.size]? = some (.cells #[.int .i64 0, .bool false, .string ⟨#[]⟩] 53 (0, 0)) from block_set_other HR5.out _ _ hrm')
          have HQ6 := hide (show QB q t5 (w5.setCell ⟨mb, 2, none⟩ (.string ⟨#[]⟩)) from block_set_other HQ5.out ⟨mb, 2, none⟩ _ (show q ≠ mb by omega))
          have HB6 := hide (show ButAt q w (w5.setCell ⟨mb, 2, none⟩ (.string ⟨#[]⟩)) from HB5.out.setnew (Nat.le_of_lt hrm) (Nat.le_of_lt hqm) _)
          go_wp2_with (fail)
          obtain ⟨wf, hwf⟩ : ∃ wf, ((((w5.setCell ⟨mb, 2, none⟩ (.string ⟨#[]⟩)).setCell ⟨w.heap.size, 0, none⟩ (.int .i64 (j : Int))).setCell ⟨w.heap.size, 1, none⟩ (.bool no)).setCell ⟨w.heap.size, 2, none⟩ (.string ⟨#[]⟩)) = wf := ⟨_, rfl⟩
          have hbf : wf.heap[w.heap.size]? = some (.cells #[.int .i64 (j : Int), .bool no, .string ⟨#[]⟩] 53 (0, 0)) := by rw [← hwf]; exact block_set (block_set (block_set HR6.out _) _) _
          have HF := hide (show ButAt q w wf from by rw [← hwf]; exact ((((HB6.out).setnew (Nat.le_refl _) (by omega) _).setnew (Nat.le_refl _) (by omega) _).setnew (Nat.le_refl _) (by omega) _))
          have HQF := hide (show QB q t5 wf from by rw [← hwf]; exact block_set_other (block_set_other (block_set_other HQ6.out ⟨w.heap.size, 0, none⟩ _ (show q ≠ w.heap.size by omega)) ⟨w.heap.size, 1, none⟩ _ (show q ≠ w.heap.size by omega)) ⟨w.heap.size, 2, none⟩ _ (show q ≠ w.heap.size by omega))
          have z0 := (block_cell hbf 0).trans (show _ = some _ from rfl)
          have z1 := (block_cell hbf 1).trans (show _ = some _ from rfl)
          have z2 := (block_cell hbf 2).trans (show _ = some _ from rfl)
          rw [hwf]
          clear hwf hbf
          go_wp2_with (fail)
          refine bodyPost_ret (by simp [results, Tryd.results34, go_sem, z0, z1, z2]; try rfl) rfl ?_
          exact ⟨HF.out, t5, HQF.out, by omega, .inl ⟨E.out, ⟨j, no, ⟨#[]⟩⟩, rfl⟩⟩
        · have E := hide (show rdM t.data.toList = some (⟨j, no, bs a⟩, r9) by rw [ER.out, hs]; rfl)
          clear hs
          have HR6 := hide (show (w5.setCell ⟨mb, 2, none⟩ (.string ⟨a.toArray⟩)).heap[w.heap.size]? = some (.cells #[.int .i64 0, .bool false, .string ⟨#[]⟩] 53 (0, 0)) from block_set_other HR5.out _ _ hrm')
          have HQ6 := hide (show QB q t5 (w5.setCell ⟨mb, 2, none⟩ (.string ⟨a.toArray⟩)) from block_set_other HQ5.out ⟨mb, 2, none⟩ _ (show q ≠ mb by omega))
          have HB6 := hide (show ButAt q w (w5.setCell ⟨mb, 2, none⟩ (.string ⟨a.toArray⟩)) from HB5.out.setnew (Nat.le_of_lt hrm) (Nat.le_of_lt hqm) _)
          go_wp2_with (fail)
          obtain ⟨wf, hwf⟩ : ∃ wf, ((((w5.setCell ⟨mb, 2, none⟩ (.string ⟨a.toArray⟩)).setCell ⟨w.heap.size, 0, none⟩ (.int .i64 (j : Int))).setCell ⟨w.heap.size, 1, none⟩ (.bool no)).setCell ⟨w.heap.size, 2, none⟩ (.string ⟨a.toArray⟩)) = wf := ⟨_, rfl⟩
          have hbf : wf.heap[w.heap.size]? = some (.cells #[.int .i64 (j : Int), .bool no, .string ⟨a.toArray⟩] 53 (0, 0)) := by rw [← hwf]; exact block_set (block_set (block_set HR6.out _) _) _
          have HF := hide (show ButAt q w wf from by rw [← hwf]; exact ((((HB6.out).setnew (Nat.le_refl _) (by omega) _).setnew (Nat.le_refl _) (by omega) _).setnew (Nat.le_refl _) (by omega) _))
          have HQF := hide (show QB q t5 wf from by rw [← hwf]; exact block_set_other (block_set_other (block_set_other HQ6.out ⟨w.heap.size, 0, none⟩ _ (show q ≠ w.heap.size by omega)) ⟨w.heap.size, 1, none⟩ _ (show q ≠ w.heap.size by omega)) ⟨w.heap.size, 2, none⟩ _ (show q ≠ w.heap.size by omega))
          have z0 := (block_cell hbf 0).trans (show _ = some _ from rfl)
          have z1 := (block_cell hbf 1).trans (show _ = some _ from rfl)
          have z2 := (block_cell hbf 2).trans (show _ = some _ from rfl)
          rw [hwf]
          clear hwf hbf
          go_wp2_with (fail)
          refine bodyPost_ret (by simp [results, Tryd.results34, go_sem, z0, z1, z2]; try rfl) rfl ?_
          exact ⟨HF.out, t5, HQF.out, by omega, .inr ⟨⟨j, no, bs a⟩, r9, E.out, rfl, hr9, by rw [bs_size]; omega⟩⟩)
end Go.Proofs.YtomihkflhhhpjaaDoor
