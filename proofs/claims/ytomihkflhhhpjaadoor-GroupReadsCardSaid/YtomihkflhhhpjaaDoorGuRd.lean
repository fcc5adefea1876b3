/- What the program reads of rules: readRule. -/
import Derived.Test.YtomihkflhhhpjaaDoorGuRs
namespace Go.Proofs.YtomihkflhhhpjaaDoor
open Go.RowKit
set_option linter.unusedVariables false
set_option linter.unusedSimpArgs false
theorem info_match : (Tryd.prog.info? 53).map (fun i => (i.zero, i.size, i.bytes)) = some (some (.agg #[.int .i64 0, .bool false, .string ByteArray.empty]), 3, 32) := by kernel_rfl
theorem info_act : (Tryd.prog.info? 56).map (fun i => (i.zero, i.size, i.bytes)) = some (some (.agg #[.int .i64 0, .int .i64 0, .string ByteArray.empty]), 3, 32) := by kernel_rfl
theorem und_match : Tryd.prog.underlying 41 = some (.slice 53) := by kernel_rfl
theorem und_act : Tryd.prog.underlying 42 = some (.slice 56) := by kernel_rfl
theorem ia_parts {i : Option TypeInfo} {z : Option Value} {s b : Nat} (h : i.map (fun i => (i.zero, i.size, i.bytes)) = some (z, s, b)) : ∃ i0, i = some i0 ∧ i0.zero = z ∧ i0.size = s ∧ i0.bytes = b := by
  cases i with
  | none => cases h
  | some i0 =>
    simp at h
    exact ⟨i0, rfl, h⟩
theorem Tab.below {g : Nat} {W : Nat → List UInt8} {w w' : World} (h : Tab g W w) (hb : Below w.heap.size w w') : Tab g W w' :=
  h.but (ButAt.of_below hb (Nat.le_refl _)) (Nat.ne_of_lt h.1)
theorem empty_of {s : ByteArray} (h : s.size = 0) : s.data.toList = [] := List.eq_nil_of_length_eq_zero (by rw [tsz]; exact h)
set_option maxRecDepth 100000 in
set_option maxHeartbeats 8000000 in
theorem readRule_any {t : ByteArray} {w : World} (ht : t.size ≤ 1000000) (hT1 : Tab 0 wM w) (hT2 : Tab 1 wA w) :
    Calls Tryd.prog 13 #[.string t] w fun e w' => RRl t.data.toList e w w' := by
  obtain ⟨i0, hi0, iz0, iz1, iz2⟩ := ia_parts info_match
  obtain ⟨i1, hi1, iz3, iz4, iz5⟩ := ia_parts info_act
  have htl := tsz t
  obtain ⟨rz, hrz0⟩ : ∃ rz, w.heap.size + 1 = rz := ⟨_, rfl⟩
  obtain ⟨b, hb0⟩ : ∃ b, rz + 1 = b := ⟨_, rfl⟩
  have hqr : w.heap.size ≠ rz := by omega
  have hqb : w.heap.size ≠ b := by omega
  have hrb : rz ≠ b := by omega
  have hlr : w.heap.size ≤ rz := by omega
  have hlb : w.heap.size ≤ b := by omega
  obtain ⟨w1, hw1⟩ : ∃ w1, w.alloc (.cells #[.string t] 9) = w1 := ⟨_, rfl⟩
  have hs1 : w1.heap.size = rz := by rw [← hrz0, ← hw1]; exact Array.size_push ..
  obtain ⟨w2, hw2⟩ : ∃ w2, w1.alloc (.cells #[.slice none 0 0, .slice none 0 0] 44) = w2 := ⟨_, rfl⟩
  have hs2 : w2.heap.size = b := by rw [← hb0, ← hw2]; exact (Array.size_push ..).trans (by rw [hs1])
  obtain ⟨w3, hw3⟩ : ∃ w3, w2.alloc (.cells #[.slice none 0 0, .slice none 0 0] 44) = w3 := ⟨_, rfl⟩
  have hs3 : w3.heap.size = b + 1 := by rw [← hw3]; exact (Array.size_push ..).trans (by rw [hs2])
  have hq1 : QB w.heap.size t w1 := hw1 ▸ heap_alloc_new w _
  have hz2 : w2.heap[rz]? = some (.cells #[.slice none 0 0, .slice none 0 0] 44 (0, 0)) := by rw [← hs1, ← hw2]; exact heap_alloc_new w1 _
  have hb3 : w3.heap[b]? = some (.cells #[.slice none 0 0, .slice none 0 0] 44 (0, 0)) := by rw [← hs2, ← hw3]; exact heap_alloc_new w2 _
  have be1 : Below w.heap.size w w1 := hw1 ▸ (Below.refl _ _).alloc (Nat.le_refl _) _
  have be2 : Below w1.heap.size w1 w2 := hw2 ▸ (Below.refl _ _).alloc (Nat.le_refl _) _
  have be3 : Below w2.heap.size w2 w3 := hw3 ▸ (Below.refl _ _).alloc (Nat.le_refl _) _
  have HRS0 := hide (show RS w.heap.size rz b w t (.slice none 0 0) (.slice none 0 0) (.slice none 0 0) [] (.slice none 0 0) [] w3 from
    ⟨(hq1.below be2 (by omega)).below be3 (by omega), block_below hz2 be3, hb3, World.ownsRow_nil _ _ _ _, World.ownsRow_nil _ _ _ _, (be1.trans (be2.mono (by omega))).trans (be3.mono (by omega))⟩)
  have HZ := hide hrz0
  have HB := hide hb0
  have HW1 := hide hw1
  have HW2 := hide hw2
  have HW3 := hide hw3
  have HT1 := hide (fun W (hb : Below w.heap.size w W) => hT1.below hb)
  have HT2 := hide (fun W (hb : Below w.heap.size w W) => hT2.below hb)
  have hg1 : 0 ≠ w.heap.size := Nat.ne_of_lt hT1.1
  have hg2 : 1 ≠ w.heap.size := Nat.ne_of_lt hT2.1
  have ER := hide (show rdRule t.data.toList = match rdMs (t.data.toList.length + 1) t.data.toList [] with
      | none => none
      | some (ms, r) => (rdAs (r.length + 1) r []).map fun ac => (ms, ac) from rfl)
  clear hrz0 hb0 hw1 hw2 hw3 hs1 hs2 hs3 hq1 hz2 hb3 be1 be2 be3 hT1 hT2
  go_enter Tryd.func13, Tryd.ntmps13
  go_wp2_with (fail)
  rw [HZ.out, HB.out, HW1.out, HW2.out, HW3.out]
  go_loopw [] (fun wr => ∃ (s : ByteArray) (ms : List Mt) (A : Option Addr) (c f : Nat), RS w.heap.size rz b w s (.slice A ms.length c) (.slice none 0 0) (.slice A ms.length c) ms (.slice none 0 0) [] wr ∧ rdMs (t.data.toList.length + 1) t.data.toList [] = rdMs f s.data.toList ms ∧ s.size < f ∧ ms.length + s.size ≤ t.size ∧ ∀ m ∈ ms, m.glob.size ≤ t.size) (fun wr => szB w.heap.size wr)
  case atStart => exact ⟨t, [], none, 0, _, HRS0.out, rfl, by omega, by simp, by simp⟩
  case round =>
    obtain ⟨s, ms, A, c, f, hrs, hmeq, hsf, hlen, hgl⟩ := hrel
    have HRS := hide hrs
    have HGL := hide hgl
    have hrz := hrs.be.size
    have hbz := lt_of_block hrs.bb
    obtain ⟨f', rfl⟩ : ∃ f', f = f' + 1 := ⟨f - 1, by omega⟩
    clear hrs hgl
    cases hp : cutP [45, 62] s.data.toList with
    | some r =>
      have CT := hide (takeT HRS.out.qb ⟨#[45, 62]⟩ hp)
      have EM := hide (show rdMs (t.data.toList.length + 1) t.data.toList [] = some (ms, r) by rw [hmeq, rdMs, hp])
      have hrl := cutP_len hp
      have hsl := tsz s
      clear hmeq hp
      obtain ⟨w3', hw3'⟩ : ∃ w3', wr.setCell ⟨w.heap.size, 0, none⟩ (.string (bs r)) = w3' := ⟨_, rfl⟩
      have HRS3 := hide (show RS w.heap.size rz b w (bs r) (.slice A ms.length c) (.slice none 0 0) (.slice A ms.length c) ms (.slice none 0 0) [] w3' from hw3' ▸ HRS.out.but ((ButAt.refl _ _).setq _) (HRS.out.qb.set _) (Nat.le_refl _) hqr.symm hqb.symm)
      rw [hw3'] at CT
      clear hw3'
      go_wp2_with (go_at_call 33; refine CT.out.mono ?_; rintro e w4 ⟨rfl, hh⟩; obtain rfl := hh.symm)
      go_loopw [] (fun wr2 => ∃ (s2 : ByteArray) (ac : List Ac) (A2 : Option Addr) (c2 f2 : Nat), RS w.heap.size rz b w s2 (.slice A ms.length c) (.slice A2 ac.length c2) (.slice A ms.length c) ms (.slice A2 ac.length c2) ac wr2 ∧ rdAs (r.length + 1) r [] = rdAs f2 s2.data.toList ac ∧ s2.size < f2 ∧ ac.length + s2.size ≤ t.size ∧ ∀ a ∈ ac, a.text.size ≤ t.size) (fun wr2 => szB w.heap.size wr2)
      case atStart => exact ⟨bs r, [], none, 0, _, HRS3.out, by rw [bs_list], by rw [bs_size]; omega, by rw [bs_size]; simp; simp at hrl; omega, by simp⟩
      case round =>
        obtain ⟨s2, ac, A2, c2, f2, hrs2, hmeq2, hsf2, hlen2, hgl2⟩ := hrel
        have HR2 := hide hrs2
        have HGL2 := hide hgl2
        have hrz2 := hrs2.be.size
        have hbz2 := lt_of_block hrs2.bb
        have hsl2 := tsz s2
        obtain ⟨f2', rfl⟩ : ∃ f2', f2 = f2' + 1 := ⟨f2 - 1, by omega⟩
        clear hrs2 hgl2
        by_cases h0 : s2.size = 0
        · have e1 : s2.toList = [] := by rw [ByteArray.toList_eq]; exact empty_of h0
          have e2 : s2.toList.isEmpty = true := by rw [e1]; rfl
          have EA := hide (show rdAs (r.length + 1) r [] = some ac by rw [hmeq2, rdAs, if_pos (empty_of h0)])
          have E := hide (show rdRule t.data.toList = some (ms, ac) by rw [ER.out, EM.out]; show (rdAs (r.length + 1) r []).map _ = _; rw [EA.out]; rfl)
          clear hmeq2
          have b0 : wr.cell? ⟨b, 0, none⟩ = some (.slice A ms.length c) := (block_cell HR2.out.bb 0).trans rfl
          have b1 : wr.cell? ⟨b, 1, none⟩ = some (.slice A2 ac.length c2) := (block_cell HR2.out.bb 1).trans rfl
          have y0 : wr.frozen? ⟨b, 0, none⟩ = false := block_free HR2.out.bb 0
          have y1 : wr.frozen? ⟨b, 1, none⟩ = false := block_free HR2.out.bb 1
          have r0 : wr.frozen? ⟨rz, 0, none⟩ = false := block_free HR2.out.rz 0
          have r1 : wr.frozen? ⟨rz, 1, none⟩ = false := block_free HR2.out.rz 1
          have s0 : wr.cell? ⟨rz, 0, none⟩ = some (.slice none 0 0) := (block_cell HR2.out.rz 0).trans rfl
          have s1 : wr.cell? ⟨rz, 1, none⟩ = some (.slice none 0 0) := (block_cell HR2.out.rz 1).trans rfl
          have q0 : wr.cell? ⟨w.heap.size, 0, none⟩ = some (.string _) := HR2.out.qb.cell.1
          have q1 : wr.frozen? ⟨w.heap.size, 0, none⟩ = false := HR2.out.qb.cell.2.1
          go_wp2_with (fail)
          obtain ⟨wf, hwf⟩ : ∃ wf, (wr.setCell ⟨rz, 0, none⟩ (.slice A ms.length c)).setCell ⟨rz, 1, none⟩ (.slice A2 ac.length c2) = wf := ⟨_, rfl⟩
          have HFF := hide (HR2.out.ret hlr (.slice A ms.length c) (.slice A2 ac.length c2) hwf)
          have z0 := (block_cell HFF.out.2.2.2 0).trans (show _ = some _ from rfl)
          have z1 := (block_cell HFF.out.2.2.2 1).trans (show _ = some _ from rfl)
          rw [hwf]
          clear hwf
          go_wp2_with (fail)
          refine bodyPost_ret (by simp [results, Tryd.results13, go_sem, z0, z1]; try rfl) rfl ?_
          have := HGL.out
          exact ⟨HFF.out.1, .inr ⟨ms, ac, _, _, E.out, rfl, HFF.out.2.1, HFF.out.2.2.1, by omega, by omega, fun m h => by rw [htl]; exact HGL.out m h, fun m h => by rw [htl]; exact HGL2.out m h⟩⟩
        · have hs0 : 0 < s2.size := by omega
          have e1 : ¬ s2.toList = [] := by rw [ByteArray.toList_eq]; exact ne_nil hs0
          have e2 : s2.toList.isEmpty = false := by simpa using e1
          have ES := hide (hmeq2.trans (show rdAs (f2' + 1) s2.data.toList ac = match cutP [32] s2.data.toList with
            | none => none
            | some r => match rdA r with
              | none => none
              | some (a, r') => rdAs f2' r' (ac ++ [a]) by rw [rdAs, if_neg (ne_nil hs0)]; rfl))
          have ENO := hide (fun (hh : rdAs (r.length + 1) r [] = none) => show rdRule t.data.toList = none by rw [ER.out, EM.out]; show (rdAs (r.length + 1) r []).map _ = _; rw [hh]; rfl)
          clear hmeq2
          cases hp2 : cutP [32] s2.data.toList with
          | none =>
            have CT2 := hide (takeF HR2.out.qb ⟨#[32]⟩ hp2)
            have E := hide (ENO.out (by rw [ES.out, hp2]))
            clear hp2
            have b0 : wr.cell? ⟨b, 0, none⟩ = some (.slice A ms.length c) := (block_cell HR2.out.bb 0).trans rfl
            have b1 : wr.cell? ⟨b, 1, none⟩ = some (.slice A2 ac.length c2) := (block_cell HR2.out.bb 1).trans rfl
            have y0 : wr.frozen? ⟨b, 0, none⟩ = false := block_free HR2.out.bb 0
            have y1 : wr.frozen? ⟨b, 1, none⟩ = false := block_free HR2.out.bb 1
            have r0 : wr.frozen? ⟨rz, 0, none⟩ = false := block_free HR2.out.rz 0
            have r1 : wr.frozen? ⟨rz, 1, none⟩ = false := block_free HR2.out.rz 1
            have s0 : wr.cell? ⟨rz, 0, none⟩ = some (.slice none 0 0) := (block_cell HR2.out.rz 0).trans rfl
            have s1 : wr.cell? ⟨rz, 1, none⟩ = some (.slice none 0 0) := (block_cell HR2.out.rz 1).trans rfl
            have q0 : wr.cell? ⟨w.heap.size, 0, none⟩ = some (.string _) := HR2.out.qb.cell.1
            have q1 : wr.frozen? ⟨w.heap.size, 0, none⟩ = false := HR2.out.qb.cell.2.1
            go_wp2_with (go_at_call 33; refine CT2.out.mono ?_; rintro e w8 ⟨rfl, hh⟩; obtain rfl := hh.symm)
            obtain ⟨wf, hwf⟩ : ∃ wf, (wr.setCell ⟨rz, 0, none⟩ (.slice A ms.length c)).setCell ⟨rz, 1, none⟩ (.slice A2 ac.length c2) = wf := ⟨_, rfl⟩
            have HFF := hide (HR2.out.ret hlr (.slice A ms.length c) (.slice A2 ac.length c2) hwf)
            have z0 := (block_cell HFF.out.2.2.2 0).trans (show _ = some _ from rfl)
            have z1 := (block_cell HFF.out.2.2.2 1).trans (show _ = some _ from rfl)
            rw [hwf]
            clear hwf
            go_wp2_with (fail)
            refine bodyPost_ret (by simp [results, Tryd.results13, go_sem, z0, z1]; try rfl) rfl ?_
            exact ⟨HFF.out.1, .inl ⟨E.out, _, _, _, _, _, _, rfl⟩⟩
          | some r2 =>
            have hrl2 := cutP_len hp2
            have CT2 := hide (takeT HR2.out.qb ⟨#[32]⟩ hp2)
            have EA := hide (ES.out.trans (show _ = match rdA r2 with
              | none => none
              | some (a, r') => rdAs f2' r' (ac ++ [a]) by rw [hp2]))
            clear hp2
            obtain ⟨w4, hw4⟩ : ∃ w4, wr.setCell ⟨w.heap.size, 0, none⟩ (.string (bs r2)) = w4 := ⟨_, rfl⟩
            have HR4 := hide (show RS w.heap.size rz b w (bs r2) (.slice A ms.length c) (.slice A2 ac.length c2) (.slice A ms.length c) ms (.slice A2 ac.length c2) ac w4 from hw4 ▸ HR2.out.but ((ButAt.refl _ _).setq _) (HR2.out.qb.set _) (Nat.le_refl _) hqr.symm hqb.symm)
            rw [hw4] at CT2
            clear hw4
            have CA := hide (readAct_any HR4.out.qb (by rw [bs_size]; simp at hrl2; omega) (HT2.out w4 HR4.out.be) hg2)
            rw [bs_list] at CA
            have q0 : wr.cell? ⟨w.heap.size, 0, none⟩ = some (.string _) := HR2.out.qb.cell.1
            have q1 : wr.frozen? ⟨w.heap.size, 0, none⟩ = false := HR2.out.qb.cell.2.1
            go_wp2_with (go_at_call 33; refine CT2.out.mono ?_; rintro e w8 ⟨rfl, hh⟩; obtain rfl := hh.symm)
            refine CA.out.mono ?_
            rintro e w5 ⟨hb5, t5, hq5, ht5, hres⟩
            have HR5 := hide (HR4.out.but hb5 hq5 (Nat.le_refl _) hqr.symm hqb.symm)
            clear hb5 hq5 q0 q1
            rcases hres with ⟨hn, m, rfl⟩ | ⟨m, r', hs, rfl, hr, hgm⟩
            · have E := hide (ENO.out (by rw [EA.out, hn]))
              clear hn
              have HR6 := hide (HR5.out.below (show Below w5.heap.size w5 (w5.alloc (.cells #[.int .i64 m.dd, .int .i64 m.n, .string m.text] 56)) from (Below.refl _ _).alloc (Nat.le_refl _) _))
              have b0 : (w5.alloc (.cells #[.int .i64 m.dd, .int .i64 m.n, .string m.text] 56)).cell? ⟨b, 0, none⟩ = some (.slice A ms.length c) := (block_cell HR6.out.bb 0).trans rfl
              have b1 : (w5.alloc (.cells #[.int .i64 m.dd, .int .i64 m.n, .string m.text] 56)).cell? ⟨b, 1, none⟩ = some (.slice A2 ac.length c2) := (block_cell HR6.out.bb 1).trans rfl
              have y0 : (w5.alloc (.cells #[.int .i64 m.dd, .int .i64 m.n, .string m.text] 56)).frozen? ⟨b, 0, none⟩ = false := block_free HR6.out.bb 0
              have y1 : (w5.alloc (.cells #[.int .i64 m.dd, .int .i64 m.n, .string m.text] 56)).frozen? ⟨b, 1, none⟩ = false := block_free HR6.out.bb 1
              have r0 : (w5.alloc (.cells #[.int .i64 m.dd, .int .i64 m.n, .string m.text] 56)).frozen? ⟨rz, 0, none⟩ = false := block_free HR6.out.rz 0
              have r1 : (w5.alloc (.cells #[.int .i64 m.dd, .int .i64 m.n, .string m.text] 56)).frozen? ⟨rz, 1, none⟩ = false := block_free HR6.out.rz 1
              have s0 : (w5.alloc (.cells #[.int .i64 m.dd, .int .i64 m.n, .string m.text] 56)).cell? ⟨rz, 0, none⟩ = some (.slice none 0 0) := (block_cell HR6.out.rz 0).trans rfl
              have s1 : (w5.alloc (.cells #[.int .i64 m.dd, .int .i64 m.n, .string m.text] 56)).cell? ⟨rz, 1, none⟩ = some (.slice none 0 0) := (block_cell HR6.out.rz 1).trans rfl
              have q0 : (w5.alloc (.cells #[.int .i64 m.dd, .int .i64 m.n, .string m.text] 56)).cell? ⟨w.heap.size, 0, none⟩ = some (.string _) := HR6.out.qb.cell.1
              have q1 : (w5.alloc (.cells #[.int .i64 m.dd, .int .i64 m.n, .string m.text] 56)).frozen? ⟨w.heap.size, 0, none⟩ = false := HR6.out.qb.cell.2.1
              go_wp2_with (fail)
              obtain ⟨wf, hwf⟩ : ∃ wf, ((w5.alloc (.cells #[.int .i64 m.dd, .int .i64 m.n, .string m.text] 56)).setCell ⟨rz, 0, none⟩ (.slice A ms.length c)).setCell ⟨rz, 1, none⟩ (.slice A2 ac.length c2) = wf := ⟨_, rfl⟩
              have HFF := hide (HR6.out.ret hlr (.slice A ms.length c) (.slice A2 ac.length c2) hwf)
              have z0 := (block_cell HFF.out.2.2.2 0).trans (show _ = some _ from rfl)
              have z1 := (block_cell HFF.out.2.2.2 1).trans (show _ = some _ from rfl)
              rw [hwf]
              clear hwf
              go_wp2_with (fail)
              refine bodyPost_ret (by simp [results, Tryd.results13, go_sem, z0, z1]; try rfl) rfl ?_
              exact ⟨HFF.out.1, .inl ⟨E.out, _, _, _, _, _, _, rfl⟩⟩
            · have hr5 := tsz t5
              have EN := hide (show rdAs (r.length + 1) r [] = rdAs f2' r' (ac ++ [m]) by rw [EA.out, hs])
              clear hs
              have HR6 := hide (HR5.out.below (show Below w5.heap.size w5 (w5.alloc (.cells #[.int .i64 m.dd, .int .i64 m.n, .string m.text] 56)) from (Below.refl _ _).alloc (Nat.le_refl _) _))
              have HM6 := hide (show (w5.alloc (.cells #[.int .i64 m.dd, .int .i64 m.n, .string m.text] 56)).heap[w5.heap.size]? = some (.cells #[.int .i64 m.dd, .int .i64 m.n, .string m.text] 56 (0, 0)) from heap_alloc_new w5 _)
              have b0 : (w5.alloc (.cells #[.int .i64 m.dd, .int .i64 m.n, .string m.text] 56)).cell? ⟨b, 0, none⟩ = some (.slice A ms.length c) := (block_cell HR6.out.bb 0).trans rfl
              have b1 : (w5.alloc (.cells #[.int .i64 m.dd, .int .i64 m.n, .string m.text] 56)).cell? ⟨b, 1, none⟩ = some (.slice A2 ac.length c2) := (block_cell HR6.out.bb 1).trans rfl
              have y0 : (w5.alloc (.cells #[.int .i64 m.dd, .int .i64 m.n, .string m.text] 56)).frozen? ⟨b, 0, none⟩ = false := block_free HR6.out.bb 0
              have y1 : (w5.alloc (.cells #[.int .i64 m.dd, .int .i64 m.n, .string m.text] 56)).frozen? ⟨b, 1, none⟩ = false := block_free HR6.out.bb 1
              have r0 : (w5.alloc (.cells #[.int .i64 m.dd, .int .i64 m.n, .string m.text] 56)).frozen? ⟨rz, 0, none⟩ = false := block_free HR6.out.rz 0
              have r1 : (w5.alloc (.cells #[.int .i64 m.dd, .int .i64 m.n, .string m.text] 56)).frozen? ⟨rz, 1, none⟩ = false := block_free HR6.out.rz 1
              have s0 : (w5.alloc (.cells #[.int .i64 m.dd, .int .i64 m.n, .string m.text] 56)).cell? ⟨rz, 0, none⟩ = some (.slice none 0 0) := (block_cell HR6.out.rz 0).trans rfl
              have s1 : (w5.alloc (.cells #[.int .i64 m.dd, .int .i64 m.n, .string m.text] 56)).cell? ⟨rz, 1, none⟩ = some (.slice none 0 0) := (block_cell HR6.out.rz 1).trans rfl
              have q0 : (w5.alloc (.cells #[.int .i64 m.dd, .int .i64 m.n, .string m.text] 56)).cell? ⟨w.heap.size, 0, none⟩ = some (.string _) := HR6.out.qb.cell.1
              have q1 : (w5.alloc (.cells #[.int .i64 m.dd, .int .i64 m.n, .string m.text] 56)).frozen? ⟨w.heap.size, 0, none⟩ = false := HR6.out.qb.cell.2.1
              have m0 : (w5.alloc (.cells #[.int .i64 m.dd, .int .i64 m.n, .string m.text] 56)).cell? ⟨w5.heap.size, 0, none⟩ = some (.int .i64 m.dd) := (block_cell HM6.out 0).trans rfl
              have m1 : (w5.alloc (.cells #[.int .i64 m.dd, .int .i64 m.n, .string m.text] 56)).cell? ⟨w5.heap.size, 1, none⟩ = some (.int .i64 m.n) := (block_cell HM6.out 1).trans rfl
              have m2 : (w5.alloc (.cells #[.int .i64 m.dd, .int .i64 m.n, .string m.text] 56)).cell? ⟨w5.heap.size, 2, none⟩ = some (.string m.text) := (block_cell HM6.out 2).trans rfl
              have hz7 := HR6.out.be.size
              go_wp2_with (at_builtin; refine wpList_append_own_at _ rfl (.tmp 41) (.tmp 43) 42 rfl w.heap.size 56 i1 (.agg #[.int .i64 0, .int .i64 0, .string ByteArray.empty]) 3 32 (by exact und_act) hi1 iz3 iz4 iz5 rfl (by decide) (.slice A2 ac.length c2) ac.length (ac.flatMap Ac.cs) rfl (HR6.out.r2.alloc _) ⟨(w5.alloc (.cells #[.int .i64 m.dd, .int .i64 m.n, .string m.text] 56)).heap.size, 0, none⟩ 1 1 [.int .i64 m.dd, .int .i64 m.n, .string m.text] (by first | rfl | go_simp) rfl (cells_at (w5.alloc (.cells #[.int .i64 m.dd, .int .i64 m.n, .string m.text] 56)) [.int .i64 m.dd, .int .i64 m.n, .string m.text] _ _ rfl) (by intro u hu; simp at hu; rcases hu with rfl | rfl | rfl <;> rfl) (by unfold maxLen; omega) (by omega) (by simp at hz7 ⊢; omega) ?_; intro v8 w8 hown8 hg8 _ hat8; obtain ⟨A8, c8, rfl⟩ := own_sl hown8; have HR8 := hide ((HR6.out.below (show Below (w5.alloc (.cells #[.int .i64 m.dd, .int .i64 m.n, .string m.text] 56)).heap.size (w5.alloc (.cells #[.int .i64 m.dd, .int .i64 m.n, .string m.text] 56)) ((w5.alloc (.cells #[.int .i64 m.dd, .int .i64 m.n, .string m.text] 56)).alloc _) from (Below.refl _ _).alloc (Nat.le_refl _) _)).grow2 (m := m) hg8 hown8); have b18 : w8.cell? ⟨b, 1, none⟩ = some (.slice A2 ac.length c2) := (block_cell HR8.out.bb 1).trans rfl; have y18 : w8.frozen? ⟨b, 1, none⟩ = false := block_free HR8.out.bb 1; clear hown8 hg8 hat8)
              go_roundw
              case rel => exact ⟨t5, ac ++ [m], A8, c8, f2', by rw [List.length_append]; exact HR8.out.set2 hlb hqb hrb _, by rw [hr]; exact EN.out, by simp at hrl2; omega, by rw [List.length_append]; simp at hrl2 ⊢; omega, fun m' hm' => (by
                rcases List.mem_append.1 hm' with h | h
                · exact HGL2.out _ h
                · rw [List.mem_singleton.1 h]; simp at hrl2; omega)⟩
              case measure => rw [HR2.out.qb.sz, (HR8.out.set2 hlb hqb hrb _).qb.sz]; simp at hrl2; omega
    | none =>
      have CT := hide (takeF HRS.out.qb ⟨#[45, 62]⟩ hp)
      have hsl := tsz s
      have EM := hide (hmeq.trans (show rdMs (f' + 1) s.data.toList ms = match rdM s.data.toList with
      | none => none
      | some (m, r) => match cutP [32] r with
        | none => none
        | some r' => rdMs f' r' (ms ++ [m]) by rw [rdMs, hp]; rfl))
      have CM := hide (readMatch_any HRS.out.qb (by omega) (HT1.out wr HRS.out.be) hg1)
      clear hmeq hp
      go_wp2_with (first | (go_at_call 33; refine CT.out.mono ?_; rintro e w4 ⟨rfl, hh⟩; obtain rfl := hh.symm) | fail)
      refine CM.out.mono ?_
      rintro e w5 ⟨hb5, t5, hq5, ht5, hres⟩
      have HR5 := hide (HRS.out.but hb5 hq5 (Nat.le_refl _) hqr.symm hqb.symm)
      clear hb5 hq5
      rcases hres with ⟨hn, m, rfl⟩ | ⟨m, r, hs, rfl, hr, hgm⟩
      · have E := hide (show rdRule t.data.toList = none by rw [ER.out, EM.out, hn])
        clear hn
        have HR6 := hide (HR5.out.below (show Below w5.heap.size w5 (w5.alloc (.cells #[.int .i64 m.on, .bool m.no, .string m.glob] 53)) from (Below.refl _ _).alloc (Nat.le_refl _) _))
        have b0 : (w5.alloc (.cells #[.int .i64 m.on, .bool m.no, .string m.glob] 53)).cell? ⟨b, 0, none⟩ = some (.slice A ms.length c) := (block_cell HR6.out.bb 0).trans rfl
        have b1 : (w5.alloc (.cells #[.int .i64 m.on, .bool m.no, .string m.glob] 53)).cell? ⟨b, 1, none⟩ = some (.slice none 0 0) := (block_cell HR6.out.bb 1).trans rfl
        have y0 : (w5.alloc (.cells #[.int .i64 m.on, .bool m.no, .string m.glob] 53)).frozen? ⟨b, 0, none⟩ = false := block_free HR6.out.bb 0
        have y1 : (w5.alloc (.cells #[.int .i64 m.on, .bool m.no, .string m.glob] 53)).frozen? ⟨b, 1, none⟩ = false := block_free HR6.out.bb 1
        have r0 : (w5.alloc (.cells #[.int .i64 m.on, .bool m.no, .string m.glob] 53)).frozen? ⟨rz, 0, none⟩ = false := block_free HR6.out.rz 0
        have r1 : (w5.alloc (.cells #[.int .i64 m.on, .bool m.no, .string m.glob] 53)).frozen? ⟨rz, 1, none⟩ = false := block_free HR6.out.rz 1
        have s0 : (w5.alloc (.cells #[.int .i64 m.on, .bool m.no, .string m.glob] 53)).cell? ⟨rz, 0, none⟩ = some (.slice none 0 0) := (block_cell HR6.out.rz 0).trans rfl
        have s1 : (w5.alloc (.cells #[.int .i64 m.on, .bool m.no, .string m.glob] 53)).cell? ⟨rz, 1, none⟩ = some (.slice none 0 0) := (block_cell HR6.out.rz 1).trans rfl
        have q0 : (w5.alloc (.cells #[.int .i64 m.on, .bool m.no, .string m.glob] 53)).cell? ⟨w.heap.size, 0, none⟩ = some (.string _) := HR6.out.qb.cell.1
        have q1 : (w5.alloc (.cells #[.int .i64 m.on, .bool m.no, .string m.glob] 53)).frozen? ⟨w.heap.size, 0, none⟩ = false := HR6.out.qb.cell.2.1
        go_wp2_with (fail)
        obtain ⟨wf, hwf⟩ : ∃ wf, ((w5.alloc (.cells #[.int .i64 m.on, .bool m.no, .string m.glob] 53)).setCell ⟨rz, 0, none⟩ (.slice A ms.length c)).setCell ⟨rz, 1, none⟩ (.slice none 0 0) = wf := ⟨_, rfl⟩
        have HFF := hide (HR6.out.ret hlr (.slice A ms.length c) (.slice none 0 0) hwf)
        have z0 := (block_cell HFF.out.2.2.2 0).trans (show _ = some _ from rfl)
        have z1 := (block_cell HFF.out.2.2.2 1).trans (show _ = some _ from rfl)
        rw [hwf]
        clear hwf
        go_wp2_with (fail)
        refine bodyPost_ret (by simp [results, Tryd.results13, go_sem, z0, z1]; try rfl) rfl ?_
        exact ⟨HFF.out.1, .inl ⟨E.out, _, _, _, _, _, _, rfl⟩⟩
      · have HR6 := hide (HR5.out.below (show Below w5.heap.size w5 (w5.alloc (.cells #[.int .i64 m.on, .bool m.no, .string m.glob] 53)) from (Below.refl _ _).alloc (Nat.le_refl _) _))
        cases hp2 : cutP [32] r with
        | none =>
          have E := hide (show rdRule t.data.toList = none by rw [ER.out, EM.out, hs]; simp [hp2])
          have CT2 := hide (takeF HR6.out.qb ⟨#[32]⟩ (by rw [hr]; exact hp2))
          clear hs hp2
          have b0 : (w5.alloc (.cells #[.int .i64 m.on, .bool m.no, .string m.glob] 53)).cell? ⟨b, 0, none⟩ = some (.slice A ms.length c) := (block_cell HR6.out.bb 0).trans rfl
          have b1 : (w5.alloc (.cells #[.int .i64 m.on, .bool m.no, .string m.glob] 53)).cell? ⟨b, 1, none⟩ = some (.slice none 0 0) := (block_cell HR6.out.bb 1).trans rfl
          have y0 : (w5.alloc (.cells #[.int .i64 m.on, .bool m.no, .string m.glob] 53)).frozen? ⟨b, 0, none⟩ = false := block_free HR6.out.bb 0
          have y1 : (w5.alloc (.cells #[.int .i64 m.on, .bool m.no, .string m.glob] 53)).frozen? ⟨b, 1, none⟩ = false := block_free HR6.out.bb 1
          have r0 : (w5.alloc (.cells #[.int .i64 m.on, .bool m.no, .string m.glob] 53)).frozen? ⟨rz, 0, none⟩ = false := block_free HR6.out.rz 0
          have r1 : (w5.alloc (.cells #[.int .i64 m.on, .bool m.no, .string m.glob] 53)).frozen? ⟨rz, 1, none⟩ = false := block_free HR6.out.rz 1
          have s0 : (w5.alloc (.cells #[.int .i64 m.on, .bool m.no, .string m.glob] 53)).cell? ⟨rz, 0, none⟩ = some (.slice none 0 0) := (block_cell HR6.out.rz 0).trans rfl
          have s1 : (w5.alloc (.cells #[.int .i64 m.on, .bool m.no, .string m.glob] 53)).cell? ⟨rz, 1, none⟩ = some (.slice none 0 0) := (block_cell HR6.out.rz 1).trans rfl
          have q0 : (w5.alloc (.cells #[.int .i64 m.on, .bool m.no, .string m.glob] 53)).cell? ⟨w.heap.size, 0, none⟩ = some (.string _) := HR6.out.qb.cell.1
          have q1 : (w5.alloc (.cells #[.int .i64 m.on, .bool m.no, .string m.glob] 53)).frozen? ⟨w.heap.size, 0, none⟩ = false := HR6.out.qb.cell.2.1
          go_wp2_with (go_at_call 33; refine CT2.out.mono ?_; rintro e w8 ⟨rfl, hh⟩; obtain rfl := hh.symm)
          obtain ⟨wf, hwf⟩ : ∃ wf, ((w5.alloc (.cells #[.int .i64 m.on, .bool m.no, .string m.glob] 53)).setCell ⟨rz, 0, none⟩ (.slice A ms.length c)).setCell ⟨rz, 1, none⟩ (.slice none 0 0) = wf := ⟨_, rfl⟩
          have HFF := hide (HR6.out.ret hlr (.slice A ms.length c) (.slice none 0 0) hwf)
          have z0 := (block_cell HFF.out.2.2.2 0).trans (show _ = some _ from rfl)
          have z1 := (block_cell HFF.out.2.2.2 1).trans (show _ = some _ from rfl)
          rw [hwf]
          clear hwf
          go_wp2_with (fail)
          refine bodyPost_ret (by simp [results, Tryd.results13, go_sem, z0, z1]; try rfl) rfl ?_
          exact ⟨HFF.out.1, .inl ⟨E.out, _, _, _, _, _, _, rfl⟩⟩
        | some r' =>
          have hrl := cutP_len hp2
          have hr5 := tsz t5
          have hrr : r.length = t5.size := by rw [← hr]; exact hr5
          obtain ⟨w7, hw7⟩ : ∃ w7, (w5.alloc (.cells #[.int .i64 m.on, .bool m.no, .string m.glob] 53)).setCell ⟨w.heap.size, 0, none⟩ (.string (bs r')) = w7 := ⟨_, rfl⟩
          have HR7 := hide (show RS w.heap.size rz b w (bs r') (.slice A ms.length c) (.slice none 0 0) (.slice A ms.length c) ms (.slice none 0 0) [] w7 from hw7 ▸ HR6.out.but ((ButAt.refl _ _).setq _) (HR6.out.qb.set _) (Nat.le_refl _) hqr.symm hqb.symm)
          have hq5 := HR5.out.qb.cell.2.2
          have HM7 := hide (show w7.heap[w5.heap.size]? = some (.cells #[.int .i64 m.on, .bool m.no, .string m.glob] 53 (0, 0)) from hw7 ▸ block_set_other (heap_alloc_new w5 _) _ _ (show w5.heap.size ≠ w.heap.size by omega))
          have CT2 := hide (takeT HR6.out.qb ⟨#[32]⟩ (by rw [hr]; exact hp2))
          have EN := hide (show rdMs (t.data.toList.length + 1) t.data.toList [] = rdMs f' r' (ms ++ [m]) by rw [EM.out, hs]; simp [hp2])
          rw [hw7] at CT2
          clear hs hp2 hw7
          have b0 : w7.cell? ⟨b, 0, none⟩ = some (.slice A ms.length c) := (block_cell HR7.out.bb 0).trans rfl
          have b1 : w7.cell? ⟨b, 1, none⟩ = some (.slice none 0 0) := (block_cell HR7.out.bb 1).trans rfl
          have y0 : w7.frozen? ⟨b, 0, none⟩ = false := block_free HR7.out.bb 0
          have y1 : w7.frozen? ⟨b, 1, none⟩ = false := block_free HR7.out.bb 1
          have r0 : w7.frozen? ⟨rz, 0, none⟩ = false := block_free HR7.out.rz 0
          have r1 : w7.frozen? ⟨rz, 1, none⟩ = false := block_free HR7.out.rz 1
          have s0 : w7.cell? ⟨rz, 0, none⟩ = some (.slice none 0 0) := (block_cell HR7.out.rz 0).trans rfl
          have s1 : w7.cell? ⟨rz, 1, none⟩ = some (.slice none 0 0) := (block_cell HR7.out.rz 1).trans rfl
          have q0 : w7.cell? ⟨w.heap.size, 0, none⟩ = some (.string _) := HR7.out.qb.cell.1
          have q1 : w7.frozen? ⟨w.heap.size, 0, none⟩ = false := HR7.out.qb.cell.2.1
          have m0 : w7.cell? ⟨w5.heap.size, 0, none⟩ = some (.int .i64 m.on) := (block_cell HM7.out 0).trans rfl
          have m1 : w7.cell? ⟨w5.heap.size, 1, none⟩ = some (.bool m.no) := (block_cell HM7.out 1).trans rfl
          have m2 : w7.cell? ⟨w5.heap.size, 2, none⟩ = some (.string m.glob) := (block_cell HM7.out 2).trans rfl
          have hz7 := HR7.out.be.size
          go_wp2_with (first | (go_at_call 33; refine CT2.out.mono ?_; rintro e w8 ⟨rfl, hh⟩; obtain rfl := hh.symm) | (at_builtin; refine wpList_append_own_at _ rfl (.tmp 23) (.tmp 25) 41 rfl w.heap.size 53 i0 (.agg #[.int .i64 0, .bool false, .string ByteArray.empty]) 3 32 (by exact und_match) hi0 iz0 iz1 iz2 rfl (by decide) (.slice A ms.length c) ms.length (ms.flatMap Mt.cs) rfl (HR7.out.r1.alloc _) ⟨w7.heap.size, 0, none⟩ 1 1 [.int .i64 m.on, .bool m.no, .string m.glob] rfl rfl (cells_at _ [.int .i64 m.on, .bool m.no, .string m.glob] _ _ rfl) (by intro u hu; simp at hu; rcases hu with rfl | rfl | rfl <;> rfl) (by unfold maxLen; omega) (by omega) (by simp; omega) ?_; intro v8 w8 hown8 hg8 _ hat8; obtain ⟨A8, c8, rfl⟩ := own_sl hown8; have HR8 := hide ((HR7.out.below (show Below w7.heap.size w7 (w7.alloc _) from (Below.refl _ _).alloc (Nat.le_refl _) _)).grow1 (m := m) hg8 hown8); have b08 : w8.cell? ⟨b, 0, none⟩ = some (.slice A ms.length c) := (block_cell HR8.out.bb 0).trans rfl; have y08 : w8.frozen? ⟨b, 0, none⟩ = false := block_free HR8.out.bb 0; clear hown8 hg8 hat8))
          go_roundw
          case rel => exact ⟨bs r', ms ++ [m], A8, c8, f', by rw [List.length_append]; exact HR8.out.set1 hlb hqb hrb _, by rw [bs_list]; exact EN.out, by rw [bs_size]; simp at hrl; omega, by rw [bs_size, List.length_append]; simp at hrl ⊢; omega, fun m' hm' => (by
            rcases List.mem_append.1 hm' with h | h
            · exact HGL.out _ h
            · rw [List.mem_singleton.1 h]; omega)⟩
          case measure => rw [HRS.out.qb.sz, (HR8.out.set1 hlb hqb hrb _).qb.sz, bs_size]; simp at hrl; omega
end Go.Proofs.YtomihkflhhhpjaaDoor
