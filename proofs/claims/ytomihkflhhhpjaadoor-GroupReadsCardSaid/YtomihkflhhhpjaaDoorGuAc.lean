/- What the program reads of rules: readAct. -/
import Derived.Test.YtomihkflhhhpjaaDoorGuAt
namespace Go.Proofs.YtomihkflhhhpjaaDoor
open Go.RowKit
set_option linter.unusedVariables false
set_option linter.unusedSimpArgs false
theorem tw_lt {α : Type} {p : α → Bool} : ∀ (l : List α) (n : Nat), n < (l.takeWhile p).length → ∃ b, l[n]? = some b ∧ p b = true
  | [], n, h => by simp at h
  | a :: l, n, h => by
    rw [List.takeWhile_cons] at h
    cases hp : p a with
    | false => rw [hp] at h; simp at h
    | true =>
      rw [hp] at h
      cases n with
      | zero => exact ⟨a, rfl, hp⟩
      | succ n => obtain ⟨b, h1, h2⟩ := tw_lt l n (by simpa using h); exact ⟨b, by simpa using h1, h2⟩
theorem tw_eq {α : Type} {p : α → Bool} : ∀ (l : List α) (b : α), l[(l.takeWhile p).length]? = some b → p b = false
  | [], b, h => by simp at h
  | a :: l, b, h => by
    rw [List.takeWhile_cons] at h
    cases hp : p a with
    | false => rw [hp] at h; simp at h; rw [← h]; exact hp
    | true => rw [hp] at h; exact tw_eq l b (by simpa using h)
theorem tw_le {α : Type} {p : α → Bool} (l : List α) : (l.takeWhile p).length ≤ l.length := (List.takeWhile_sublist _).length_le
theorem tw_take {α : Type} {p : α → Bool} : ∀ (l : List α), l.take (l.takeWhile p).length = l.takeWhile p
  | [] => rfl
  | a :: l => by
    rw [List.takeWhile_cons]
    cases hp : p a with
    | false => rfl
    | true => simp [tw_take l]
theorem dgB_iff {c : UInt8} : dgB c = true ↔ 48 ≤ c.toNat ∧ c.toNat ≤ 57 := by simp [dgB]
theorem tw_dig {l : List UInt8} : ∀ b ∈ l.takeWhile dgB, dgB b = true := by
  intro b hb
  obtain ⟨n, hn, rfl⟩ := List.mem_iff_getElem.1 hb
  obtain ⟨c, h1, h2⟩ := tw_lt l n hn
  have h3 : (l.takeWhile dgB)[n]? = some c := by rw [← tw_take l, List.getElem?_take]; simp [hn, h1]
  rw [List.getElem?_eq_getElem hn] at h3
  rw [Option.some.inj h3]; exact h2
/-- A count of the program's. -/
def badN (d : List UInt8) : Prop := d.length < 1 ∨ 3 < d.length ∨ (1 < d.length ∧ d.head? = some 48)
instance (d : List UInt8) : Decidable (badN d) := by unfold badN; infer_instance
def rdN (r : List UInt8) : Option (Ac × List UInt8) := if badN (r.takeWhile dgB) then none else some (⟨5, (dgV (r.takeWhile dgB) : Nat), ⟨#[]⟩⟩, r.drop (r.takeWhile dgB).length)
def rdA (l : List UInt8) : Option (Ac × List UInt8) :=
  match rdOn wA l 1 6 with
  | none => none
  | some (k, r) => if k = 5 then rdN r else if k = 6 then (rdQ r).map fun x => (⟨6, 0, bs x.1⟩, x.2) else some (⟨k, 0, ⟨#[]⟩⟩, r)
/-- What readAct answers. -/
def RAc (q : Nat) (l : List UInt8) (e : Ending) (w w' : World) : Prop := ButAt q w w' ∧ ∃ t' : ByteArray, QB q t' w' ∧ t'.size ≤ l.length ∧
  ((rdA l = none ∧ ∃ m : Ac, e = .returned (.tuple #[.agg #[.int .i64 m.dd, .int .i64 m.n, .string m.text], .bool false])) ∨
    ∃ m r, rdA l = some (m, r) ∧ e = .returned (.tuple #[.agg #[.int .i64 m.dd, .int .i64 m.n, .string m.text], .bool true]) ∧ t'.data.toList = r ∧ m.text.size ≤ l.length)
/-- What the search for a word keeps, where a found word ends it. -/
def OnJ (W : Nat → List UInt8) (q mb : Nat) (l : List UInt8) (fs : List Value) (ty : TypeId) (w0 : World) (i : Int) (wr : World) : Prop :=
  ∃ k f : Nat, i = (k : Int) ∧ k + f = 7 ∧ 1 ≤ k ∧ ButAt q w0 wr ∧
    ((rdOn W l 1 6 = rdOn W l k f ∧ QB q (bs l) wr ∧ wr.heap[mb]? = some (.cells (.int .i64 0 :: fs).toArray ty (0, 0))) ∨
      ∃ j r, k = j + 1 ∧ 1 ≤ j ∧ j ≤ 6 ∧ rdOn W l 1 6 = some (j, r) ∧ cutP (W j) l = some r ∧ QB q (bs r) wr ∧ wr.heap[mb]? = some (.cells (.int .i64 (j : Int) :: fs).toArray ty (0, 0)))
set_option maxRecDepth 100000 in
set_option maxHeartbeats 8000000 in
theorem readAct_any {q : Nat} {t : ByteArray} {w : World} (h : QB q t w) (ht : t.size ≤ 1000000) (hT : Tab 1 wA w) (hg : 1 ≠ q) :
    Calls Tryd.prog 35 #[.pointer (some ⟨q, 0, none⟩)] w fun e w' => RAc q t.data.toList e w w' := by
  have hql := h.cell.2.2
  have htl := tsz t
  obtain ⟨wa, hwa⟩ : ∃ wa, w.alloc (.cells #[.int .i64 0, .int .i64 0, .string ⟨#[]⟩] 56) = wa := ⟨_, rfl⟩
  have hba : Below w.heap.size w wa := hwa ▸ (Below.refl _ _).alloc (Nat.le_refl _) _
  have hra : wa.heap[w.heap.size]? = some (.cells #[.int .i64 0, .int .i64 0, .string ⟨#[]⟩] 56 (0, 0)) := hwa ▸ heap_alloc_new w _
  obtain ⟨mb, hmb⟩ : ∃ mb, w.heap.size + 1 = mb := ⟨_, rfl⟩
  have hmb' : wa.heap.size = mb := by rw [← hmb, ← hwa]; exact Array.size_push ..
  obtain ⟨w2, hw2⟩ : ∃ w2, wa.alloc (.cells #[.int .i64 0, .int .i64 0, .string ⟨#[]⟩] 56) = w2 := ⟨_, rfl⟩
  have hb2 : Below wa.heap.size wa w2 := hw2 ▸ (Below.refl _ _).alloc (Nat.le_refl _) _
  have hrm : w.heap.size < mb := by have := lt_of_block hra; omega
  have hqm : q < mb := by omega
  have HM2 := hide (show w2.heap[mb]? = some (.cells #[.int .i64 0, .int .i64 0, .string ⟨#[]⟩] 56 (0, 0)) from hw2 ▸ hmb' ▸ heap_alloc_new wa _)
  have HB1 := hide (show ButAt q w wa from ButAt.of_below hba (Nat.le_of_lt hql))
  have HB2 := hide (show ButAt q wa w2 from ButAt.of_below hb2 (by omega))
  have HQ2 := hide (show QB q t w2 from (h.below hba hql).below hb2 (by omega))
  have HRB := hide (show wa.heap[w.heap.size]? = some (.cells #[.int .i64 0, .int .i64 0, .string ⟨#[]⟩] 56 (0, 0)) from hra)
  have HMZ := hide (show mb ≤ wa.heap.size from Nat.le_of_eq hmb'.symm)
  have HT1 := hide (hT.but HB1.out hg)
  have HRD := hide (show rdA t.data.toList = match rdOn wA t.data.toList 1 6 with
      | none => none
      | some (k, r) => if k = 5 then rdN r else if k = 6 then (rdQ r).map fun x => (⟨6, 0, bs x.1⟩, x.2) else some (⟨k, 0, ⟨#[]⟩⟩, r) from rfl)
  have HMZ2 := hide (show wa.heap.size ≤ mb from Nat.le_of_eq hmb')
  have HWA := hide hwa
  have HWB := hide hw2
  have HMB := hide hmb
  have hrm' : w.heap.size ≠ mb := by omega
  clear hwa hw2 hmb hmb' hba hb2 hra hT
  go_enter Tryd.func35, Tryd.ntmps35
  go_wp2_with (fail)
  rw [HMB.out, HWA.out, HWB.out]
  go_loopw [5] (fun ti wr => ∃ i : Int, ti = .int .i64 i ∧ OnJ wA q mb t.data.toList [.int .i64 0, .string ⟨#[]⟩] 56 wa i wr) (fun ti _ => 7 - (intOf ti).toNat)
  case atStart => exact ⟨1, rfl, 1, 6, rfl, rfl, Nat.le_refl _, HB2.out, .inl ⟨rfl, by rw [bs_of]; exact HQ2.out, HM2.out⟩⟩
  case round =>
    obtain ⟨i, rfl, k, f, rfl, hkf, hk1, hbu, hst⟩ := hrel
    have HBU := hide hbu
    have HTR := hide (HT1.out.but hbu hg)
    have HRR := hide (hbu.keep _ _ HRB.out (by omega))
    have hmz : mb ≤ wr.heap.size := by have := hbu.be.size; have := HMZ.out; omega
    clear hbu
    rcases hst with ⟨hon, hq, hm⟩ | ⟨j, r, rfl, hj1, hj6, hon, hcp, hq, hm⟩
    · obtain ⟨c0, f0, _⟩ := hq.cell
      have n0 : wr.frozen? ⟨mb, 0, none⟩ = false := block_free hm 0
      have n1 : wr.frozen? ⟨mb, 1, none⟩ = false := block_free hm 1
      have n2 : wr.frozen? ⟨mb, 2, none⟩ = false := block_free hm 2
      have m0 : wr.cell? ⟨mb, 0, none⟩ = some (.int .i64 0) := (block_cell hm 0).trans rfl
      have m1 : wr.cell? ⟨mb, 1, none⟩ = some (.int .i64 0) := (block_cell hm 1).trans rfl
      have m2 : wr.cell? ⟨mb, 2, none⟩ = some (.string ⟨#[]⟩) := (block_cell hm 2).trans rfl
      have HQ := hide hq
      have HM := hide hm
      clear hq hm
      by_cases hk : k ≤ 6
      · have hk' : (k : Int) ≤ 6 := by omega
        have tk : wr.cell? ⟨1, k, none⟩ = some (.string (bs (wA k))) := HTR.out.2 k (by omega)
        obtain ⟨f9, rfl⟩ : ∃ f9, f = f9 + 1 := ⟨f - 1, by omega⟩
        cases hcp : cutP (wA k) t.data.toList with
        | none =>
          have CT2 := hide (takeF HQ.out (bs (wA k)) (by rw [bs_list, bs_list]; exact hcp))
          have HON := hide (hon.trans (rdOn_miss hcp))
          clear hon hcp
          go_wp2_with (go_at_call 33; refine CT2.out.mono ?_; rintro e w3 ⟨rfl, hh⟩; obtain rfl := hh.symm)
          go_roundw
          case rel => exact ⟨_, by go_num, k + 1, f9, rfl, by omega, by omega, HBU.out, .inl ⟨HON.out, HQ.out, HM.out⟩⟩
          case measure => simp [intOf]; omega
        | some r =>
          have CT2 := hide (takeT HQ.out (bs (wA k)) (by rw [bs_list, bs_list]; exact hcp))
          have HON := hide (hon.trans (rdOn_hit hcp))
          have HCP := hide hcp
          clear hon hcp
          obtain ⟨w3, hw3⟩ : ∃ w3, wr.setCell ⟨q, 0, none⟩ (.string (bs r)) = w3 := ⟨_, rfl⟩
          have HQ3 := hide (show QB q (bs r) w3 from hw3 ▸ HQ.out.set _)
          have HM3 := hide (show w3.heap[mb]? = some (.cells #[.int .i64 0, .int .i64 0, .string ⟨#[]⟩] 56 (0, 0)) from hw3 ▸ block_set_other HM.out _ _ (show mb ≠ q by omega))
          have HBU3 := hide (show ButAt q wa w3 from hw3 ▸ HBU.out.setq _)
          have p0 : w3.cell? ⟨mb, 0, none⟩ = some (.int .i64 0) := (block_cell HM3.out 0).trans rfl
          have p1 : w3.frozen? ⟨mb, 0, none⟩ = false := block_free HM3.out 0
          rw [hw3] at CT2
          clear hw3
          go_wp2_with (go_at_call 33; refine CT2.out.mono ?_; rintro e w4 ⟨rfl, hh⟩; obtain rfl := hh.symm)
          go_roundw
          case rel => exact ⟨_, by go_num, k + 1, f9, rfl, by omega, by omega, HBU3.out.setnew (by have := HMZ2.out; omega) (Nat.le_of_lt hqm) _, .inr ⟨k, r, rfl, hk1, hk, HON.out, HCP.out, block_set_other HQ3.out _ _ (show q ≠ mb by omega), block_set HM3.out _⟩⟩
          case measure => simp [intOf]; omega
      · obtain rfl : k = 7 := by omega
        obtain rfl : f = 0 := by omega
        have E := hide (show rdA t.data.toList = none by rw [HRD.out, hon]; rfl)
        clear hon
        have r0 : wr.frozen? ⟨w.heap.size, 0, none⟩ = false := block_free HRR.out 0
        have r1 : wr.frozen? ⟨w.heap.size, 1, none⟩ = false := block_free HRR.out 1
        have r2 : wr.frozen? ⟨w.heap.size, 2, none⟩ = false := block_free HRR.out 2
        have s0 : wr.cell? ⟨w.heap.size, 0, none⟩ = some (.int .i64 0) := (block_cell HRR.out 0).trans rfl
        have s1 : wr.cell? ⟨w.heap.size, 1, none⟩ = some (.int .i64 0) := (block_cell HRR.out 1).trans rfl
        have s2 : wr.cell? ⟨w.heap.size, 2, none⟩ = some (.string ⟨#[]⟩) := (block_cell HRR.out 2).trans rfl
        go_wp2_with (fail)
        obtain ⟨wf, hwf⟩ : ∃ wf, (((wr.setCell ⟨w.heap.size, 0, none⟩ (.int .i64 0)).setCell ⟨w.heap.size, 1, none⟩ (.int .i64 0)).setCell ⟨w.heap.size, 2, none⟩ (.string ⟨#[]⟩)) = wf := ⟨_, rfl⟩
        have hbf : wf.heap[w.heap.size]? = some (.cells #[.int .i64 0, .int .i64 0, .string ⟨#[]⟩] 56 (0, 0)) := by rw [← hwf]; exact block_set (block_set (block_set HRR.out _) _) _
        have HF := hide (show ButAt q w wf from by rw [← hwf]; exact (((((HB1.out.trans HBU.out)).setnew (Nat.le_refl _) (by omega) _).setnew (Nat.le_refl _) (by omega) _).setnew (Nat.le_refl _) (by omega) _))
        have HQF := hide (show QB q t wf from by rw [← hwf]; exact block_set_other (block_set_other (block_set_other HQ.out ⟨w.heap.size, 0, none⟩ _ (show q ≠ w.heap.size by omega)) ⟨w.heap.size, 1, none⟩ _ (show q ≠ w.heap.size by omega)) ⟨w.heap.size, 2, none⟩ _ (show q ≠ w.heap.size by omega))
        have z0 := (block_cell hbf 0).trans (show _ = some _ from rfl)
        have z1 := (block_cell hbf 1).trans (show _ = some _ from rfl)
        have z2 := (block_cell hbf 2).trans (show _ = some _ from rfl)
        rw [hwf]
        clear hwf hbf
        go_wp2_with (fail)
        refine bodyPost_ret (by simp [results, Tryd.results35, go_sem, z0, z1, z2]; try rfl) rfl ?_
        exact ⟨HF.out, t, HQF.out, by omega, .inl ⟨E.out, ⟨0, 0, ⟨#[]⟩⟩, rfl⟩⟩
    · obtain ⟨c0, f0, hqw⟩ := hq.cell
      have n0 : wr.frozen? ⟨mb, 0, none⟩ = false := block_free hm 0
      have n1 : wr.frozen? ⟨mb, 1, none⟩ = false := block_free hm 1
      have n2 : wr.frozen? ⟨mb, 2, none⟩ = false := block_free hm 2
      have m0 : wr.cell? ⟨mb, 0, none⟩ = some ((.int .i64 (j : Int))) := (block_cell hm 0).trans rfl
      have m1 : wr.cell? ⟨mb, 1, none⟩ = some (.int .i64 0) := (block_cell hm 1).trans rfl
      have m2 : wr.cell? ⟨mb, 2, none⟩ = some (.string ⟨#[]⟩) := (block_cell hm 2).trans rfl
      have r0 : wr.frozen? ⟨w.heap.size, 0, none⟩ = false := block_free HRR.out 0
      have r1 : wr.frozen? ⟨w.heap.size, 1, none⟩ = false := block_free HRR.out 1
      have r2 : wr.frozen? ⟨w.heap.size, 2, none⟩ = false := block_free HRR.out 2
      have s0 : wr.cell? ⟨w.heap.size, 0, none⟩ = some (.int .i64 0) := (block_cell HRR.out 0).trans rfl
      have s1 : wr.cell? ⟨w.heap.size, 1, none⟩ = some (.int .i64 0) := (block_cell HRR.out 1).trans rfl
      have s2 : wr.cell? ⟨w.heap.size, 2, none⟩ = some (.string ⟨#[]⟩) := (block_cell HRR.out 2).trans rfl
      have HQ := hide hq
      have HM := hide hm
      have hjz : ((j : Int) == 0) = false := beq_eq_false_iff_ne.2 (by omega)
      have hjz' : ¬ (j : Int) = 0 := by omega
      have hrl := cutP_len hcp
      clear hq hm
      by_cases hj : j = 6
      · subst hj
        have ER := hide (show rdA t.data.toList = (rdQ r).map fun x => (⟨6, 0, bs x.1⟩, x.2) by rw [HRD.out, hon]; simp)
        have CQ := hide (readQuoted_any HQ.out (by rw [bs_size]; omega))
        rw [bs_list] at CQ
        clear hon hcp hjz hjz'
        go_wp2_with (fail)
        refine CQ.out.mono ?_
        rintro e w5 ⟨hb5, t5, hq5, ht5, hres⟩
        have HM5 := hide (hb5.keep _ _ HM.out (show mb ≠ q by omega))
        have HR5 := hide (hb5.keep _ _ HRR.out (show w.heap.size ≠ q by omega))
        have HB5 := hide ((HB1.out.trans HBU.out).trans hb5)
        have HQ5 := hide hq5
        have n0 : w5.frozen? ⟨mb, 0, none⟩ = false := block_free HM5.out 0
        have n1 : w5.frozen? ⟨mb, 1, none⟩ = false := block_free HM5.out 1
        have n2 : w5.frozen? ⟨mb, 2, none⟩ = false := block_free HM5.out 2
        have m0 : w5.cell? ⟨mb, 0, none⟩ = some ((.int .i64 ((6 : Nat) : Int))) := (block_cell HM5.out 0).trans rfl
        have m1 : w5.cell? ⟨mb, 1, none⟩ = some (.int .i64 0) := (block_cell HM5.out 1).trans rfl
        have m2 : w5.cell? ⟨mb, 2, none⟩ = some (.string ⟨#[]⟩) := (block_cell HM5.out 2).trans rfl
        have r0 : w5.frozen? ⟨w.heap.size, 0, none⟩ = false := block_free HR5.out 0
        have r1 : w5.frozen? ⟨w.heap.size, 1, none⟩ = false := block_free HR5.out 1
        have r2 : w5.frozen? ⟨w.heap.size, 2, none⟩ = false := block_free HR5.out 2
        have s0 : w5.cell? ⟨w.heap.size, 0, none⟩ = some (.int .i64 0) := (block_cell HR5.out 0).trans rfl
        have s1 : w5.cell? ⟨w.heap.size, 1, none⟩ = some (.int .i64 0) := (block_cell HR5.out 1).trans rfl
        have s2 : w5.cell? ⟨w.heap.size, 2, none⟩ = some (.string ⟨#[]⟩) := (block_cell HR5.out 2).trans rfl
        clear hb5 hq5
        rcases hres with ⟨hn, rfl⟩ | ⟨a, r9, hs, rfl, hr9, hal⟩
        · have E := hide (show rdA t.data.toList = none by rw [ER.out, hn]; rfl)
          clear hn
          have HR6 := hide (show (w5.setCell ⟨mb, 2, none⟩ (.string ⟨#[]⟩)).heap[w.heap.size]? = some (.cells #[.int .i64 0, .int .i64 0, .string ⟨#[]⟩] 56 (0, 0)) from block_set_other HR5.out _ _ hrm')
          have HQ6 := hide (show QB q t5 (w5.setCell ⟨mb, 2, none⟩ (.string ⟨#[]⟩)) from block_set_other HQ5.out ⟨mb, 2, none⟩ _ (show q ≠ mb by omega))
          have HB6 := hide (show ButAt q w (w5.setCell ⟨mb, 2, none⟩ (.string ⟨#[]⟩)) from HB5.out.setnew (Nat.le_of_lt hrm) (Nat.le_of_lt hqm) _)
          go_wp2_with (fail)
          obtain ⟨wf, hwf⟩ : ∃ wf, ((((w5.setCell ⟨mb, 2, none⟩ (.string ⟨#[]⟩)).setCell ⟨w.heap.size, 0, none⟩ (.int .i64 6)).setCell ⟨w.heap.size, 1, none⟩ (.int .i64 0)).setCell ⟨w.heap.size, 2, none⟩ (.string ⟨#[]⟩)) = wf := ⟨_, rfl⟩
          have hbf : wf.heap[w.heap.size]? = some (.cells #[.int .i64 6, .int .i64 0, .string ⟨#[]⟩] 56 (0, 0)) := by rw [← hwf]; exact block_set (block_set (block_set HR6.out _) _) _
          have HF := hide (show ButAt q w wf from by rw [← hwf]; exact ((((HB6.out).setnew (Nat.le_refl _) (by omega) _).setnew (Nat.le_refl _) (by omega) _).setnew (Nat.le_refl _) (by omega) _))
          have HQF := hide (show QB q t5 wf from by rw [← hwf]; exact block_set_other (block_set_other (block_set_other HQ6.out ⟨w.heap.size, 0, none⟩ _ (show q ≠ w.heap.size by omega)) ⟨w.heap.size, 1, none⟩ _ (show q ≠ w.heap.size by omega)) ⟨w.heap.size, 2, none⟩ _ (show q ≠ w.heap.size by omega))
          have z0 := (block_cell hbf 0).trans (show _ = some _ from rfl)
          have z1 := (block_cell hbf 1).trans (show _ = some _ from rfl)
          have z2 := (block_cell hbf 2).trans (show _ = some _ from rfl)
          rw [hwf]
          clear hwf hbf
          go_wp2_with (fail)
          refine bodyPost_ret (by simp [results, Tryd.results35, go_sem, z0, z1, z2]; try rfl) rfl ?_
          exact ⟨HF.out, t5, HQF.out, by omega, .inl ⟨E.out, ⟨6, 0, ⟨#[]⟩⟩, rfl⟩⟩
        · have E := hide (show rdA t.data.toList = some (⟨6, 0, bs a⟩, r9) by rw [ER.out, hs]; rfl)
          clear hs
          have HR6 := hide (show (w5.setCell ⟨mb, 2, none⟩ (.string ⟨a.toArray⟩)).heap[w.heap.size]? = some (.cells #[.int .i64 0, .int .i64 0, .string ⟨#[]⟩] 56 (0, 0)) from block_set_other HR5.out _ _ hrm')
          have HQ6 := hide (show QB q t5 (w5.setCell ⟨mb, 2, none⟩ (.string ⟨a.toArray⟩)) from block_set_other HQ5.out ⟨mb, 2, none⟩ _ (show q ≠ mb by omega))
          have HB6 := hide (show ButAt q w (w5.setCell ⟨mb, 2, none⟩ (.string ⟨a.toArray⟩)) from HB5.out.setnew (Nat.le_of_lt hrm) (Nat.le_of_lt hqm) _)
          go_wp2_with (fail)
          obtain ⟨wf, hwf⟩ : ∃ wf, ((((w5.setCell ⟨mb, 2, none⟩ (.string ⟨a.toArray⟩)).setCell ⟨w.heap.size, 0, none⟩ (.int .i64 6)).setCell ⟨w.heap.size, 1, none⟩ (.int .i64 0)).setCell ⟨w.heap.size, 2, none⟩ (.string ⟨a.toArray⟩)) = wf := ⟨_, rfl⟩
          have hbf : wf.heap[w.heap.size]? = some (.cells #[.int .i64 6, .int .i64 0, .string ⟨a.toArray⟩] 56 (0, 0)) := by rw [← hwf]; exact block_set (block_set (block_set HR6.out _) _) _
          have HF := hide (show ButAt q w wf from by rw [← hwf]; exact ((((HB6.out).setnew (Nat.le_refl _) (by omega) _).setnew (Nat.le_refl _) (by omega) _).setnew (Nat.le_refl _) (by omega) _))
          have HQF := hide (show QB q t5 wf from by rw [← hwf]; exact block_set_other (block_set_other (block_set_other HQ6.out ⟨w.heap.size, 0, none⟩ _ (show q ≠ w.heap.size by omega)) ⟨w.heap.size, 1, none⟩ _ (show q ≠ w.heap.size by omega)) ⟨w.heap.size, 2, none⟩ _ (show q ≠ w.heap.size by omega))
          have z0 := (block_cell hbf 0).trans (show _ = some _ from rfl)
          have z1 := (block_cell hbf 1).trans (show _ = some _ from rfl)
          have z2 := (block_cell hbf 2).trans (show _ = some _ from rfl)
          rw [hwf]
          clear hwf hbf
          go_wp2_with (fail)
          refine bodyPost_ret (by simp [results, Tryd.results35, go_sem, z0, z1, z2]; try rfl) rfl ?_
          exact ⟨HF.out, t5, HQF.out, by omega, .inr ⟨⟨6, 0, bs a⟩, r9, E.out, rfl, hr9, by rw [bs_size]; omega⟩⟩
      · have hj6' : ((j : Int) == 6) = false := beq_eq_false_iff_ne.2 (by omega)
        have hj6n : ¬ (j : Int) = 6 := by omega
        by_cases hj5 : j = 5
        · subst hj5
          have ER := hide (show rdA t.data.toList = rdN r by rw [HRD.out, hon]; simp)
          clear hon hcp hjz hjz' hj hj6' hj6n
          obtain ⟨s, hs⟩ : ∃ s, bs r = s := ⟨_, rfl⟩
          have hsr : s.data.toList = r := hs ▸ bs_list r
          rw [hs] at HQ c0
          have hsz : s.size = r.length := by rw [← tsz, hsr]
          obtain ⟨d, hd⟩ : ∃ d, r.takeWhile dgB = d := ⟨_, rfl⟩
          have hdl : d.length ≤ s.size := by rw [hsz, ← hd]; exact tw_le r
          have hst : s.size ≤ 1000000 := by omega
          have hsl : s.size ≤ t.data.toList.length := by omega
          have HSZ := hide hsz
          have HD := hide hd
          have HSR := hide hsr
          have HS := hide hs
          have hk' : ((5 + 1 : Nat) : Int) ≤ 6 := by omega
          clear hs hsr hsz hd
          go_wp2_with (fail)
          go_loop [6] (fun vi => ∃ n : Nat, n ≤ d.length ∧ vi = .int .i64 n) (fun vi => d.length - (intOf vi).toNat)
          case atStart => exact ⟨0, Nat.zero_le _, rfl⟩
          case round =>
            obtain ⟨n, hn, rfl⟩ := hrel
            by_cases hlt : n < d.length
            · have hns : n < s.size := by omega
              obtain ⟨hlo, hhi⟩ : (48 : Int) ≤ (s[n].toNat : Int) ∧ (s[n].toNat : Int) ≤ 57 := by
                obtain ⟨b, hb1, hb2⟩ := tw_lt r n (by rw [HD.out]; exact hlt)
                have hbe := sget9 s n hns
                rw [HSR.out, hb1] at hbe
                rw [← Option.some.inj hbe]
                have := dgB_iff.1 hb2
                omega
              go_wp2
              go_round
              case rel => exact ⟨n + 1, hlt, by go_num⟩
              case measure => simp [intOf]; omega
            · have hnd : n = d.length := by omega
              have hend : ¬ n < s.size ∨ ∃ h : n < s.size, ¬ (48 : Int) ≤ (s[n].toNat : Int) ∨ ((48 : Int) ≤ (s[n].toNat : Int) ∧ ¬ (s[n].toNat : Int) ≤ 57) := by
                by_cases hns : n < s.size
                · refine .inr ⟨hns, ?_⟩
                  have hbe : r[(r.takeWhile dgB).length]? = some (s[n]'hns) := by rw [HD.out, ← hnd, ← HSR.out]; exact sget9 s n hns
                  have h9 := tw_eq r _ hbe
                  have h8 : ¬ (48 ≤ (s[n]'hns).toNat ∧ (s[n]'hns).toNat ≤ 57) := by
                    intro hh
                    have := dgB_iff.2 hh
                    rw [this] at h9
                    cases h9
                  omega
                · exact .inl hns
              have HND := hide hnd
              have hnl : n ≤ s.size := by omega
              obtain ⟨dg, hdg⟩ : ∃ dg, s.extract 0 n = dg := ⟨_, rfl⟩
              obtain ⟨dr, hdr⟩ : ∃ dr, s.extract n s.size = dr := ⟨_, rfl⟩
              have HDR := hide (show dr.data.toList = r.drop n by rw [← hdr, extract_toList, HSR.out])
              have HDG := hide (show dg.data.toList = d by rw [← hdg, ← ByteArray.toList_eq, Lib.extract_toList, HSR.out, List.drop_zero, Nat.sub_zero, HND.out, ← HD.out, tw_take])
              have HDZ := hide (show dg.size = n by rw [← tsz, HDG.out, HND.out])
              have HRZ := hide (show dr.size ≤ s.size by rw [← hdr]; simp)
              clear hnd hn hlt
              by_cases hbad : badN d
              · have E := hide (show rdA t.data.toList = none by rw [ER.out, rdN, HD.out, if_pos hbad])
                by_cases h1 : (n : Int) < 1
                · clear hbad
                  rcases hend with hns | ⟨hns, hlo | ⟨hlo, hhi⟩⟩ <;> (
                    go_wp2_with (fail)
                    obtain ⟨wf, hwf⟩ : ∃ wf, (((wr.setCell ⟨w.heap.size, 0, none⟩ (.int .i64 5)).setCell ⟨w.heap.size, 1, none⟩ (.int .i64 0)).setCell ⟨w.heap.size, 2, none⟩ (.string ⟨#[]⟩)) = wf := ⟨_, rfl⟩
                    have hbf : wf.heap[w.heap.size]? = some (.cells #[.int .i64 5, .int .i64 0, .string ⟨#[]⟩] 56 (0, 0)) := by rw [← hwf]; exact block_set (block_set (block_set HRR.out _) _) _
                    have HF := hide (show ButAt q w wf from by rw [← hwf]; exact (((((HB1.out.trans HBU.out)).setnew (Nat.le_refl _) (by omega) _).setnew (Nat.le_refl _) (by omega) _).setnew (Nat.le_refl _) (by omega) _))
                    have HQF := hide (show QB q s wf from by rw [← hwf]; exact block_set_other (block_set_other (block_set_other HQ.out ⟨w.heap.size, 0, none⟩ _ (show q ≠ w.heap.size by omega)) ⟨w.heap.size, 1, none⟩ _ (show q ≠ w.heap.size by omega)) ⟨w.heap.size, 2, none⟩ _ (show q ≠ w.heap.size by omega))
                    have z0 := (block_cell hbf 0).trans (show _ = some _ from rfl)
                    have z1 := (block_cell hbf 1).trans (show _ = some _ from rfl)
                    have z2 := (block_cell hbf 2).trans (show _ = some _ from rfl)
                    rw [hwf]
                    clear hwf hbf
                    go_wp2_with (fail)
                    refine bodyPost_ret (by simp [results, Tryd.results35, go_sem, z0, z1, z2]; try rfl) rfl ?_
                    exact ⟨HF.out, s, HQF.out, hsl, .inl ⟨E.out, ⟨5, 0, ⟨#[]⟩⟩, rfl⟩⟩)
                · by_cases h3 : (3 : Int) < (n : Int)
                  · have h3' : (n : Int) > 3 := h3
                    clear hbad
                    rcases hend with hns | ⟨hns, hlo | ⟨hlo, hhi⟩⟩ <;> (
                    go_wp2_with (fail)
                    obtain ⟨wf, hwf⟩ : ∃ wf, (((wr.setCell ⟨w.heap.size, 0, none⟩ (.int .i64 5)).setCell ⟨w.heap.size, 1, none⟩ (.int .i64 0)).setCell ⟨w.heap.size, 2, none⟩ (.string ⟨#[]⟩)) = wf := ⟨_, rfl⟩
                    have hbf : wf.heap[w.heap.size]? = some (.cells #[.int .i64 5, .int .i64 0, .string ⟨#[]⟩] 56 (0, 0)) := by rw [← hwf]; exact block_set (block_set (block_set HRR.out _) _) _
                    have HF := hide (show ButAt q w wf from by rw [← hwf]; exact (((((HB1.out.trans HBU.out)).setnew (Nat.le_refl _) (by omega) _).setnew (Nat.le_refl _) (by omega) _).setnew (Nat.le_refl _) (by omega) _))
                    have HQF := hide (show QB q s wf from by rw [← hwf]; exact block_set_other (block_set_other (block_set_other HQ.out ⟨w.heap.size, 0, none⟩ _ (show q ≠ w.heap.size by omega)) ⟨w.heap.size, 1, none⟩ _ (show q ≠ w.heap.size by omega)) ⟨w.heap.size, 2, none⟩ _ (show q ≠ w.heap.size by omega))
                    have z0 := (block_cell hbf 0).trans (show _ = some _ from rfl)
                    have z1 := (block_cell hbf 1).trans (show _ = some _ from rfl)
                    have z2 := (block_cell hbf 2).trans (show _ = some _ from rfl)
                    rw [hwf]
                    clear hwf hbf
                    go_wp2_with (fail)
                    refine bodyPost_ret (by simp [results, Tryd.results35, go_sem, z0, z1, z2]; try rfl) rfl ?_
                    exact ⟨HF.out, s, HQF.out, hsl, .inl ⟨E.out, ⟨5, 0, ⟨#[]⟩⟩, rfl⟩⟩)
                  · have hb2 : 1 < d.length ∧ d.head? = some 48 := by
                      rcases hbad with h | h | h
                      · have := HND.out; omega
                      · have := HND.out; omega
                      · exact h
                    have h2 : (1 : Int) < (n : Int) := by have := HND.out; omega
                    have h2' : (n : Int) > 1 := h2
                    have hdp : 0 < dg.size := by have := HDZ.out; omega
                    have hz : (dg[0].toNat : Int) = 48 := by
                      have := sget9 dg 0 hdp
                      rw [HDG.out, ← List.head?_eq_getElem?, hb2.2] at this
                      rw [← Option.some.inj this]; rfl
                    have h3' : ¬ (n : Int) > 3 := h3
                    clear hbad hb2
                    rcases hend with hns | ⟨hns, hlo | ⟨hlo, hhi⟩⟩ <;> (
                    go_wp2_with (fail)
                    obtain ⟨wf, hwf⟩ : ∃ wf, (((wr.setCell ⟨w.heap.size, 0, none⟩ (.int .i64 5)).setCell ⟨w.heap.size, 1, none⟩ (.int .i64 0)).setCell ⟨w.heap.size, 2, none⟩ (.string ⟨#[]⟩)) = wf := ⟨_, rfl⟩
                    have hbf : wf.heap[w.heap.size]? = some (.cells #[.int .i64 5, .int .i64 0, .string ⟨#[]⟩] 56 (0, 0)) := by rw [← hwf]; exact block_set (block_set (block_set HRR.out _) _) _
                    have HF := hide (show ButAt q w wf from by rw [← hwf]; exact (((((HB1.out.trans HBU.out)).setnew (Nat.le_refl _) (by omega) _).setnew (Nat.le_refl _) (by omega) _).setnew (Nat.le_refl _) (by omega) _))
                    have HQF := hide (show QB q s wf from by rw [← hwf]; exact block_set_other (block_set_other (block_set_other HQ.out ⟨w.heap.size, 0, none⟩ _ (show q ≠ w.heap.size by omega)) ⟨w.heap.size, 1, none⟩ _ (show q ≠ w.heap.size by omega)) ⟨w.heap.size, 2, none⟩ _ (show q ≠ w.heap.size by omega))
                    have z0 := (block_cell hbf 0).trans (show _ = some _ from rfl)
                    have z1 := (block_cell hbf 1).trans (show _ = some _ from rfl)
                    have z2 := (block_cell hbf 2).trans (show _ = some _ from rfl)
                    rw [hwf]
                    clear hwf hbf
                    go_wp2_with (fail)
                    refine bodyPost_ret (by simp [results, Tryd.results35, go_sem, z0, z1, z2]; try rfl) rfl ?_
                    exact ⟨HF.out, s, HQF.out, hsl, .inl ⟨E.out, ⟨5, 0, ⟨#[]⟩⟩, rfl⟩⟩)
              · have h1 : ¬ (n : Int) < 1 := fun h => hbad (.inl (by have := HND.out; omega))
                have h3 : ¬ (3 : Int) < (n : Int) := fun h => hbad (.inr (.inl (by have := HND.out; omega)))
                have h3' : ¬ (n : Int) > 3 := h3
                have hdp : 0 < dg.size := by have := HDZ.out; omega
                obtain ⟨v, hv⟩ : ∃ v, dgV d = v := ⟨_, rfl⟩
                have E := hide (show rdA t.data.toList = some (⟨5, v, ⟨#[]⟩⟩, r.drop n) by rw [ER.out, rdN, HD.out, if_neg hbad, hv, HND.out])
                have HA := hide (fun W => show Calls Tryd.prog 55 #[.string dg] W fun e w' => e = .returned (.tuple #[.int .i64 (v : Nat), .nilIface]) ∧ Below W.heap.size W w' by
                  have := atoi_any dg W hdp (by have := HDZ.out; omega) (by rw [HDG.out, ← HD.out]; exact tw_dig)
                  rw [HDG.out, hv] at this
                  exact this)
                clear hv
                by_cases h2 : (1 : Int) < (n : Int)
                · have h2' : (n : Int) > 1 := h2
                  have hz : ¬ (dg[0].toNat : Int) = 48 := by
                    intro hh
                    refine hbad (.inr (.inr ⟨by have := HND.out; omega, ?_⟩))
                    have := sget9 dg 0 hdp
                    rw [HDG.out, ← List.head?_eq_getElem?] at this
                    rw [this, show dg[0] = 48 from UInt8.toNat_inj.1 (by show dg[0].toNat = 48; omega)]
                  clear hbad
                  rcases hend with hns | ⟨hns, hlo | ⟨hlo, hhi⟩⟩ <;> (
                    go_wp2_with (first | go_quiet (fail) | (go_at_call 55; refine (HA.out _).mono ?_; rintro e w5 ⟨rfl, hb⟩; have hb5 : ButAt q wr w5 := ButAt.of_below hb (Nat.le_of_lt hqw); have HM5 := hide (hb5.keep _ _ HM.out (show mb ≠ q by omega)); have HR5 := hide (hb5.keep _ _ HRR.out (show w.heap.size ≠ q by omega)); have HB5 := hide ((HB1.out.trans HBU.out).trans hb5); have HQ5 := hide (HQ.out.below hb hqw); obtain ⟨c5, f5, _⟩ := HQ5.out.cell; have n05 : w5.frozen? ⟨mb, 0, none⟩ = false := block_free HM5.out 0; have n15 : w5.frozen? ⟨mb, 1, none⟩ = false := block_free HM5.out 1; have n25 : w5.frozen? ⟨mb, 2, none⟩ = false := block_free HM5.out 2; have m05 : w5.cell? ⟨mb, 0, none⟩ = some (.int .i64 ((5 : Nat) : Int)) := (block_cell HM5.out 0).trans rfl; have m15 : w5.cell? ⟨mb, 1, none⟩ = some (.int .i64 0) := (block_cell HM5.out 1).trans rfl; have m25 : w5.cell? ⟨mb, 2, none⟩ = some (.string ⟨#[]⟩) := (block_cell HM5.out 2).trans rfl; have r05 : w5.frozen? ⟨w.heap.size, 0, none⟩ = false := block_free HR5.out 0; have r15 : w5.frozen? ⟨w.heap.size, 1, none⟩ = false := block_free HR5.out 1; have r25 : w5.frozen? ⟨w.heap.size, 2, none⟩ = false := block_free HR5.out 2; have s05 : w5.cell? ⟨w.heap.size, 0, none⟩ = some (.int .i64 0) := (block_cell HR5.out 0).trans rfl; have s15 : w5.cell? ⟨w.heap.size, 1, none⟩ = some (.int .i64 0) := (block_cell HR5.out 1).trans rfl; have s25 : w5.cell? ⟨w.heap.size, 2, none⟩ = some (.string ⟨#[]⟩) := (block_cell HR5.out 2).trans rfl; clear hb hb5))
                    have HR6 := hide (show ((w5.setCell ⟨mb, 1, none⟩ (.int .i64 (v : Nat))).setCell ⟨q, 0, none⟩ (.string dr)).heap[w.heap.size]? = some (.cells #[.int .i64 0, .int .i64 0, .string ⟨#[]⟩] 56 (0, 0)) from block_set_other (block_set_other HR5.out _ _ hrm') _ _ (show w.heap.size ≠ q by omega))
                    have HQ6 := hide (show QB q dr ((w5.setCell ⟨mb, 1, none⟩ (.int .i64 (v : Nat))).setCell ⟨q, 0, none⟩ (.string dr)) from QB.set (show QB q s (w5.setCell ⟨mb, 1, none⟩ (.int .i64 (v : Nat))) from block_set_other HQ5.out ⟨mb, 1, none⟩ _ (show q ≠ mb by omega)) dr)
                    have HB6 := hide (show ButAt q w ((w5.setCell ⟨mb, 1, none⟩ (.int .i64 (v : Nat))).setCell ⟨q, 0, none⟩ (.string dr)) from (HB5.out.setnew (Nat.le_of_lt hrm) (Nat.le_of_lt hqm) _).setq _)
                    obtain ⟨wf, hwf⟩ : ∃ wf, (((((w5.setCell ⟨mb, 1, none⟩ (.int .i64 (v : Nat))).setCell ⟨q, 0, none⟩ (.string dr)).setCell ⟨w.heap.size, 0, none⟩ (.int .i64 5)).setCell ⟨w.heap.size, 1, none⟩ (.int .i64 (v : Nat))).setCell ⟨w.heap.size, 2, none⟩ (.string ⟨#[]⟩)) = wf := ⟨_, rfl⟩
                    have hbf : wf.heap[w.heap.size]? = some (.cells #[.int .i64 5, .int .i64 (v : Nat), .string ⟨#[]⟩] 56 (0, 0)) := by rw [← hwf]; exact block_set (block_set (block_set HR6.out _) _) _
                    have HF := hide (show ButAt q w wf from by rw [← hwf]; exact ((((HB6.out).setnew (Nat.le_refl _) (by omega) _).setnew (Nat.le_refl _) (by omega) _).setnew (Nat.le_refl _) (by omega) _))
                    have HQF := hide (show QB q dr wf from by rw [← hwf]; exact block_set_other (block_set_other (block_set_other HQ6.out ⟨w.heap.size, 0, none⟩ _ (show q ≠ w.heap.size by omega)) ⟨w.heap.size, 1, none⟩ _ (show q ≠ w.heap.size by omega)) ⟨w.heap.size, 2, none⟩ _ (show q ≠ w.heap.size by omega))
                    have z0 := (block_cell hbf 0).trans (show _ = some _ from rfl)
                    have z1 := (block_cell hbf 1).trans (show _ = some _ from rfl)
                    have z2 := (block_cell hbf 2).trans (show _ = some _ from rfl)
                    rw [hwf]
                    clear hwf hbf
                    go_wp2_with (fail)
                    refine bodyPost_ret (by simp [results, Tryd.results35, go_sem, z0, z1, z2]; try rfl) rfl ?_
                    exact ⟨HF.out, dr, HQF.out, by have := HRZ.out; omega, .inr ⟨⟨5, v, ⟨#[]⟩⟩, r.drop n, E.out, rfl, HDR.out, Nat.zero_le _⟩⟩)
                · have h2' : ¬ (n : Int) > 1 := h2
                  clear hbad
                  rcases hend with hns | ⟨hns, hlo | ⟨hlo, hhi⟩⟩ <;> (
                    go_wp2_with (first | go_quiet (fail) | (go_at_call 55; refine (HA.out _).mono ?_; rintro e w5 ⟨rfl, hb⟩; have hb5 : ButAt q wr w5 := ButAt.of_below hb (Nat.le_of_lt hqw); have HM5 := hide (hb5.keep _ _ HM.out (show mb ≠ q by omega)); have HR5 := hide (hb5.keep _ _ HRR.out (show w.heap.size ≠ q by omega)); have HB5 := hide ((HB1.out.trans HBU.out).trans hb5); have HQ5 := hide (HQ.out.below hb hqw); obtain ⟨c5, f5, _⟩ := HQ5.out.cell; have n05 : w5.frozen? ⟨mb, 0, none⟩ = false := block_free HM5.out 0; have n15 : w5.frozen? ⟨mb, 1, none⟩ = false := block_free HM5.out 1; have n25 : w5.frozen? ⟨mb, 2, none⟩ = false := block_free HM5.out 2; have m05 : w5.cell? ⟨mb, 0, none⟩ = some (.int .i64 ((5 : Nat) : Int)) := (block_cell HM5.out 0).trans rfl; have m15 : w5.cell? ⟨mb, 1, none⟩ = some (.int .i64 0) := (block_cell HM5.out 1).trans rfl; have m25 : w5.cell? ⟨mb, 2, none⟩ = some (.string ⟨#[]⟩) := (block_cell HM5.out 2).trans rfl; have r05 : w5.frozen? ⟨w.heap.size, 0, none⟩ = false := block_free HR5.out 0; have r15 : w5.frozen? ⟨w.heap.size, 1, none⟩ = false := block_free HR5.out 1; have r25 : w5.frozen? ⟨w.heap.size, 2, none⟩ = false := block_free HR5.out 2; have s05 : w5.cell? ⟨w.heap.size, 0, none⟩ = some (.int .i64 0) := (block_cell HR5.out 0).trans rfl; have s15 : w5.cell? ⟨w.heap.size, 1, none⟩ = some (.int .i64 0) := (block_cell HR5.out 1).trans rfl; have s25 : w5.cell? ⟨w.heap.size, 2, none⟩ = some (.string ⟨#[]⟩) := (block_cell HR5.out 2).trans rfl; clear hb hb5))
                    have HR6 := hide (show ((w5.setCell ⟨mb, 1, none⟩ (.int .i64 (v : Nat))).setCell ⟨q, 0, none⟩ (.string dr)).heap[w.heap.size]? = some (.cells #[.int .i64 0, .int .i64 0, .string ⟨#[]⟩] 56 (0, 0)) from block_set_other (block_set_other HR5.out _ _ hrm') _ _ (show w.heap.size ≠ q by omega))
                    have HQ6 := hide (show QB q dr ((w5.setCell ⟨mb, 1, none⟩ (.int .i64 (v : Nat))).setCell ⟨q, 0, none⟩ (.string dr)) from QB.set (show QB q s (w5.setCell ⟨mb, 1, none⟩ (.int .i64 (v : Nat))) from block_set_other HQ5.out ⟨mb, 1, none⟩ _ (show q ≠ mb by omega)) dr)
                    have HB6 := hide (show ButAt q w ((w5.setCell ⟨mb, 1, none⟩ (.int .i64 (v : Nat))).setCell ⟨q, 0, none⟩ (.string dr)) from (HB5.out.setnew (Nat.le_of_lt hrm) (Nat.le_of_lt hqm) _).setq _)
                    obtain ⟨wf, hwf⟩ : ∃ wf, (((((w5.setCell ⟨mb, 1, none⟩ (.int .i64 (v : Nat))).setCell ⟨q, 0, none⟩ (.string dr)).setCell ⟨w.heap.size, 0, none⟩ (.int .i64 5)).setCell ⟨w.heap.size, 1, none⟩ (.int .i64 (v : Nat))).setCell ⟨w.heap.size, 2, none⟩ (.string ⟨#[]⟩)) = wf := ⟨_, rfl⟩
                    have hbf : wf.heap[w.heap.size]? = some (.cells #[.int .i64 5, .int .i64 (v : Nat), .string ⟨#[]⟩] 56 (0, 0)) := by rw [← hwf]; exact block_set (block_set (block_set HR6.out _) _) _
                    have HF := hide (show ButAt q w wf from by rw [← hwf]; exact ((((HB6.out).setnew (Nat.le_refl _) (by omega) _).setnew (Nat.le_refl _) (by omega) _).setnew (Nat.le_refl _) (by omega) _))
                    have HQF := hide (show QB q dr wf from by rw [← hwf]; exact block_set_other (block_set_other (block_set_other HQ6.out ⟨w.heap.size, 0, none⟩ _ (show q ≠ w.heap.size by omega)) ⟨w.heap.size, 1, none⟩ _ (show q ≠ w.heap.size by omega)) ⟨w.heap.size, 2, none⟩ _ (show q ≠ w.heap.size by omega))
                    have z0 := (block_cell hbf 0).trans (show _ = some _ from rfl)
                    have z1 := (block_cell hbf 1).trans (show _ = some _ from rfl)
                    have z2 := (block_cell hbf 2).trans (show _ = some _ from rfl)
                    rw [hwf]
                    clear hwf hbf
                    go_wp2_with (fail)
                    refine bodyPost_ret (by simp [results, Tryd.results35, go_sem, z0, z1, z2]; try rfl) rfl ?_
                    exact ⟨HF.out, dr, HQF.out, by have := HRZ.out; omega, .inr ⟨⟨5, v, ⟨#[]⟩⟩, r.drop n, E.out, rfl, HDR.out, Nat.zero_le _⟩⟩)
        · have hj5' : ((j : Int) == 5) = false := beq_eq_false_iff_ne.2 (by omega)
          have hj5n : ¬ (j : Int) = 5 := by omega
          have E := hide (show rdA t.data.toList = some (⟨j, 0, ⟨#[]⟩⟩, r) by rw [HRD.out, hon]; simp [hj, hj5])
          clear hon hcp hj hj5
          have hk' : ((j + 1 : Nat) : Int) ≤ 6 := by omega
          go_wp2_with (fail)
          obtain ⟨wf, hwf⟩ : ∃ wf, (((wr.setCell ⟨w.heap.size, 0, none⟩ (.int .i64 (j : Int))).setCell ⟨w.heap.size, 1, none⟩ (.int .i64 0)).setCell ⟨w.heap.size, 2, none⟩ (.string ⟨#[]⟩)) = wf := ⟨_, rfl⟩
          have hbf : wf.heap[w.heap.size]? = some (.cells #[.int .i64 (j : Int), .int .i64 0, .string ⟨#[]⟩] 56 (0, 0)) := by rw [← hwf]; exact block_set (block_set (block_set HRR.out _) _) _
          have HF := hide (show ButAt q w wf from by rw [← hwf]; exact (((((HB1.out.trans HBU.out)).setnew (Nat.le_refl _) (by omega) _).setnew (Nat.le_refl _) (by omega) _).setnew (Nat.le_refl _) (by omega) _))
          have HQF := hide (show QB q (bs r) wf from by rw [← hwf]; exact block_set_other (block_set_other (block_set_other HQ.out ⟨w.heap.size, 0, none⟩ _ (show q ≠ w.heap.size by omega)) ⟨w.heap.size, 1, none⟩ _ (show q ≠ w.heap.size by omega)) ⟨w.heap.size, 2, none⟩ _ (show q ≠ w.heap.size by omega))
          have z0 := (block_cell hbf 0).trans (show _ = some _ from rfl)
          have z1 := (block_cell hbf 1).trans (show _ = some _ from rfl)
          have z2 := (block_cell hbf 2).trans (show _ = some _ from rfl)
          rw [hwf]
          clear hwf hbf
          go_wp2_with (fail)
          refine bodyPost_ret (by simp [results, Tryd.results35, go_sem, z0, z1, z2]; try rfl) rfl ?_
          exact ⟨HF.out, bs r, HQF.out, by rw [bs_size]; omega, .inr ⟨⟨j, 0, ⟨#[]⟩⟩, r, E.out, rfl, bs_list r, Nat.zero_le _⟩⟩
end Go.Proofs.YtomihkflhhhpjaaDoor
