/- Walk of the program's printType (printed by gen_nx.py). -/
import Derived.Test.YthlhiegbiapllaaNmPrW
namespace Go.Proofs.Ythlhiegbiapllaa
open Go.RowKit
set_option linter.unusedVariables false
set_option linter.unusedSimpArgs false
@[local go_sem] theorem pre_two (w : World) : (Instr.index 107 (.agg #[.string ⟨#[]⟩, .string ⟨#[]⟩, .string ⟨#[114, 101, 102, 32]⟩, .string ⟨#[108, 105, 115, 116, 32]⟩]) (.int .i64 2)).run Try.prog w = .ok (.string ⟨#[114, 101, 102, 32]⟩) w := by
  have h : Try.prog.underlying 107 = some (.array 4 9) := Try.underlying107
  simp [Instr.index, run_underlying h, asIntOf, go_sem]
@[local go_sem] theorem pre_three (w : World) : (Instr.index 107 (.agg #[.string ⟨#[]⟩, .string ⟨#[]⟩, .string ⟨#[114, 101, 102, 32]⟩, .string ⟨#[108, 105, 115, 116, 32]⟩]) (.int .i64 3)).run Try.prog w = .ok (.string ⟨#[108, 105, 115, 116, 32]⟩) w := by
  have h : Try.prog.underlying 107 = some (.array 4 9) := Try.underlying107
  simp [Instr.index, run_underlying h, asIntOf, go_sem]
theorem pTy_zero : pTyOk 0 := fun _ _ _ _ _ _ _ _ h => h.elim
set_option maxRecDepth 100000 in
set_option maxHeartbeats 16000000 in
theorem pTy_succ {f : Nat} (HPA : pPartsOk f) (HTS : pTysOk f) (H : pTyOk f) : pTyOk (f + 1) := by
  intro k t cs B b L w hin hg hc5 hb hBw hLL
  rw [Nat.mul_add_one, ← Nat.add_assoc] at hLL
  cases k with
  | zero => exact hin.elim
  | succ k =>
  obtain ⟨A, n, c, A2, n2, c2, rfl, hn, hm, hn2, hm2, hl, hl2⟩ := hin
  obtain ⟨⟨hk1, hk4⟩, h1, h2, h3, h4, h5⟩ := hg
  have HLN := hide hl.len
  have HLO := hide hl2.len
  have HSL := hide hl
  have HSO := hide hl2
  have HB := hide hb
  have hbw := bld_lt hb
  have HA := hide (fun ob : Obj => show Below w.heap.size w (w.alloc ob) from (Below.refl _ _).alloc (Nat.le_refl _) ob)
  obtain ⟨K, hKd⟩ : ∃ K, t.kind = K := ⟨_, rfl⟩
  have HX := hide (heap_alloc_new w (.cells #[.int .i64 t.kind, .slice A n c, .slice A2 n2 c2] 52))
  rw [hKd] at HX hk1 hk4 h1 h2 h3
  rw [hKd]
  have HKD := hide hKd
  clear hl hl2 hKd hb
  rcases (show K = 1 ∨ K = 2 ∨ K = 3 ∨ K = 4 by omega) with rfl | rfl | rfl | rfl
  · obtain ⟨ho, hp1, hp2⟩ := h1 rfl
    have hcn := cnt_plain (f := f) ho
    have HPR := hide (show prT (f + 1) t = prName (prT f) t.name by rw [prT_succ, if_pos HKD.out])
    have hnn := HLN.out
    have hLA : L.length + 4000000 * f + 2000000 ≤ 100000000 := by omega
    have hn20 : n ≤ 20 := by omega
    have HNO := hide (fun (W : World) (h : Below B w W) h2 h3 => HPA k A n c t.name B b L W hn hm hn20 (parts_below HSL.out h) h4 (by omega) h2 h3 hLA)
    unfold maxLen at hm hm2
    clear h1 h2 h3 h4 h5 hcn ho hc5
    rw [HPR.out]
    go_enter Try.func68, Try.ntmps68
    go_wp2_with (go_at_call 39; refine (HNO.out _ ((HA.out _).mono hBw) (bld_below HB.out (HA.out _)) (by simp; omega)).mono ?_; rintro e w1 ⟨rfl, hb1, hw1, hk1w⟩)
    go_end0
    exact ⟨rfl, hb1, ((HA.out _).mono hBw).trans hw1, (KeptBut.of_below (HA.out _)).trans hk1w⟩

  · obtain ⟨hno, hp1, hp2⟩ := h2 (by decide)
    have hone := h3 (.inl rfl)
    obtain ⟨x, hx⟩ : ∃ x, t.of = [x] := by
      match t.of, hone with
      | [x], _ => exact ⟨x, rfl⟩
    have hcn := cnt_other (f := f) hno
    rw [hx, cntTys_one] at hcn
    have HPR := hide (show L ++ prT (f + 1) t = L ++ (⟨#[114, 101, 102, 32]⟩ : ByteArray).data.toList ++ prT f x by rw [prT_succ, if_neg (by rw [HKD.out]; decide), if_neg (by rw [HKD.out]; decide), if_pos HKD.out, hx]; simp [refB, headT])
    have hnn := HLO.out
    rw [hx] at hnn
    have hn21 : n2 = 1 := by simpa using hnn.symm
    subst hn21
    obtain ⟨o, q, x', cs', hA, hbb, hp, hpin, hpc⟩ := HSO.out.at_ (k := 0) (by omega)
    subst hA
    have hxx : x = x' := by rw [hx] at hp; simpa using hp
    subst hxx
    have hsz : (⟨#[114, 101, 102, 32]⟩ : ByteArray).size = 4 := rfl
    have HO := hide (fun (W : World) (h : Below B w W) h2 h3 => H k x cs' B b (L ++ (⟨#[114, 101, 102, 32]⟩ : ByteArray).data.toList) W (hpin.below h) (h5 x (by rw [hx]; simp)) (by omega) h2 h3 (by rw [List.length_append]; have : (⟨#[114, 101, 102, 32]⟩ : ByteArray).data.toList.length = 4 := rfl; omega))
    cases k with
    | zero => exact hpin.elim
    | succ k =>
    obtain ⟨A7, n7, c7, A8, n8, c8, hcs', _⟩ := hpin
    subst hcs'
    have hq0 : w.cell? ⟨o, q, none⟩ = some (.int .i64 x.kind) := by simpa using hpc 0 _ rfl
    have hq1 : w.cell? ⟨o, q + 1, none⟩ = some (.slice A7 n7 c7) := by simpa using hpc 1 _ rfl
    have hq2 : w.cell? ⟨o, q + 2, none⟩ = some (.slice A8 n8 c8) := by simpa using hpc 2 _ rfl
    have HQ := hide (And.intro hq0 (And.intro hq1 hq2))
    unfold maxLen at hm hm2
    clear h1 h2 h3 h4 h5 hcn hpc hp hc5 hx hone hnn hno hq0 hq1 hq2
    rw [HPR.out]
    go_enter Try.func68, Try.ntmps68
    go_wp2_with (first | (go_at_call 40; refine (write_bytes B b L ⟨#[114, 101, 102, 32]⟩ _ (bld_below HB.out (HA.out _)) (by simp; omega) (by omega)).mono ?_; rintro e w1 ⟨rfl, hb1, hw1, hk1w⟩; have HB1 := hide hb1; have hB1 : Below B w w1 := ((HA.out _).mono hBw).trans hw1; have HK1 := hide ((KeptBut.of_below (HA.out _)).trans hk1w); have hx1 := hk1w _ _ _ _ HX.out (by decide) (by omega); have x2 : w1.cell? ⟨w.heap.size, 2, none⟩ = some (.slice (some ⟨o, q, none⟩) 1 c2) := (block_cell hx1 2).trans rfl; have q0 : w1.cell? ⟨o, q, none⟩ = some (.int .i64 x.kind) := (hB1.cell (p := ⟨o, q, none⟩) hbb).trans HQ.out.1; have q1 : w1.cell? ⟨o, q + 1, none⟩ = some (.slice A7 n7 c7) := (hB1.cell (p := ⟨o, q + 1, none⟩) hbb).trans HQ.out.2.1; have q2 : w1.cell? ⟨o, q + 2, none⟩ = some (.slice A8 n8 c8) := (hB1.cell (p := ⟨o, q + 2, none⟩) hbb).trans HQ.out.2.2; clear hb1 hw1 hk1w hx1) | (go_at_call 68; refine (HO.out _ hB1 HB1.out (Nat.le_trans hBw hB1.size)).mono ?_; rintro e w2 ⟨rfl, hb2, hw2, hk2w⟩))
    go_end0
    exact ⟨rfl, hb2, hB1.trans hw2, HK1.out.trans hk2w⟩

  · obtain ⟨hno, hp1, hp2⟩ := h2 (by decide)
    have hone := h3 (.inr rfl)
    obtain ⟨x, hx⟩ : ∃ x, t.of = [x] := by
      match t.of, hone with
      | [x], _ => exact ⟨x, rfl⟩
    have hcn := cnt_other (f := f) hno
    rw [hx, cntTys_one] at hcn
    have HPR := hide (show L ++ prT (f + 1) t = L ++ (⟨#[108, 105, 115, 116, 32]⟩ : ByteArray).data.toList ++ prT f x by rw [prT_succ, if_neg (by rw [HKD.out]; decide), if_neg (by rw [HKD.out]; decide), if_neg (by rw [HKD.out]; decide), hx]; simp [listB, headT])
    have hnn := HLO.out
    rw [hx] at hnn
    have hn21 : n2 = 1 := by simpa using hnn.symm
    subst hn21
    obtain ⟨o, q, x', cs', hA, hbb, hp, hpin, hpc⟩ := HSO.out.at_ (k := 0) (by omega)
    subst hA
    have hxx : x = x' := by rw [hx] at hp; simpa using hp
    subst hxx
    have hsz : (⟨#[108, 105, 115, 116, 32]⟩ : ByteArray).size = 5 := rfl
    have HO := hide (fun (W : World) (h : Below B w W) h2 h3 => H k x cs' B b (L ++ (⟨#[108, 105, 115, 116, 32]⟩ : ByteArray).data.toList) W (hpin.below h) (h5 x (by rw [hx]; simp)) (by omega) h2 h3 (by rw [List.length_append]; have : (⟨#[108, 105, 115, 116, 32]⟩ : ByteArray).data.toList.length = 5 := rfl; omega))
    cases k with
    | zero => exact hpin.elim
    | succ k =>
    obtain ⟨A7, n7, c7, A8, n8, c8, hcs', _⟩ := hpin
    subst hcs'
    have hq0 : w.cell? ⟨o, q, none⟩ = some (.int .i64 x.kind) := by simpa using hpc 0 _ rfl
    have hq1 : w.cell? ⟨o, q + 1, none⟩ = some (.slice A7 n7 c7) := by simpa using hpc 1 _ rfl
    have hq2 : w.cell? ⟨o, q + 2, none⟩ = some (.slice A8 n8 c8) := by simpa using hpc 2 _ rfl
    have HQ := hide (And.intro hq0 (And.intro hq1 hq2))
    unfold maxLen at hm hm2
    clear h1 h2 h3 h4 h5 hcn hpc hp hc5 hx hone hnn hno hq0 hq1 hq2
    rw [HPR.out]
    go_enter Try.func68, Try.ntmps68
    go_wp2_with (first | (go_at_call 40; refine (write_bytes B b L ⟨#[108, 105, 115, 116, 32]⟩ _ (bld_below HB.out (HA.out _)) (by simp; omega) (by omega)).mono ?_; rintro e w1 ⟨rfl, hb1, hw1, hk1w⟩; have HB1 := hide hb1; have hB1 : Below B w w1 := ((HA.out _).mono hBw).trans hw1; have HK1 := hide ((KeptBut.of_below (HA.out _)).trans hk1w); have hx1 := hk1w _ _ _ _ HX.out (by decide) (by omega); have x2 : w1.cell? ⟨w.heap.size, 2, none⟩ = some (.slice (some ⟨o, q, none⟩) 1 c2) := (block_cell hx1 2).trans rfl; have q0 : w1.cell? ⟨o, q, none⟩ = some (.int .i64 x.kind) := (hB1.cell (p := ⟨o, q, none⟩) hbb).trans HQ.out.1; have q1 : w1.cell? ⟨o, q + 1, none⟩ = some (.slice A7 n7 c7) := (hB1.cell (p := ⟨o, q + 1, none⟩) hbb).trans HQ.out.2.1; have q2 : w1.cell? ⟨o, q + 2, none⟩ = some (.slice A8 n8 c8) := (hB1.cell (p := ⟨o, q + 2, none⟩) hbb).trans HQ.out.2.2; clear hb1 hw1 hk1w hx1) | (go_at_call 68; refine (HO.out _ hB1 HB1.out (Nat.le_trans hBw hB1.size)).mono ?_; rintro e w2 ⟨rfl, hb2, hw2, hk2w⟩))
    go_end0
    exact ⟨rfl, hb2, hB1.trans hw2, HK1.out.trans hk2w⟩

  · obtain ⟨hno, hp1, hp2⟩ := h2 (by decide)
    have hcn := cnt_other (f := f) hno
    have hne : t.of ≠ [] := fun e => by rw [e] at hp1; simp at hp1
    have hsp := List.dropLast_concat_getLast hne
    obtain ⟨x, hxl⟩ : ∃ x, t.of.getLast hne = x := ⟨_, rfl⟩
    rw [hxl] at hsp
    have hxm : x ∈ t.of := by rw [← hxl]; exact List.getLast_mem hne
    have hsum : cntTys f t.of = cntTys f t.of.dropLast + cnt f x := by
      conv => lhs; rw [← hsp]
      rw [cntTys_append, cntTys_one]
    have hnn := HLO.out
    obtain ⟨m, hm1⟩ : ∃ m, m + 1 = n2 := ⟨n2 - 1, by omega⟩
    subst hm1
    have hdl : t.of.dropLast = t.of.take m := by rw [List.dropLast_eq_take, hnn, Nat.add_sub_cancel]
    have HPR := hide (show L ++ prT (f + 1) t = L ++ (⟨#[102, 117, 110, 99, 40]⟩ : ByteArray).data.toList ++ prTys (prT f) (t.of.take m) ++ (⟨#[41, 32]⟩ : ByteArray).data.toList ++ prT f x by
      rw [prT_succ, if_neg (by rw [HKD.out]; decide), if_pos HKD.out, hdl]
      unfold lastT
      rw [List.getLast?_eq_some_getLast hne, hxl]
      simp [funcB])
    have hgx : t.of[m]? = some x := by
      rw [← hxl, List.getLast_eq_getElem, ← List.getElem?_eq_getElem]
      congr 1; omega
    obtain ⟨o, q, x', cs', hA, hbb, hp, hpin, hpc⟩ := HSO.out.at_ (k := m) (by omega)
    subst hA
    have hxx : x = x' := Option.some.inj (hgx.symm.trans hp)
    subst hxx
    have hlt := prTys_len (f := f) (l := t.of.take m) (fun y hy => prT_len f y (h5 y (List.mem_of_mem_take hy)))
    have hct : cntTys f (t.of.take m) ≤ 500 := by rw [← hdl]; omega
    have hlt2 : (prTys (prT f) (t.of.take m)).length ≤ 700000 := by omega
    have hm21 : m ≤ 21 := by omega
    have hmc2 : m ≤ c2 := by omega
    have hcx : cnt f x ≤ 500 := by omega
    have HDL := hide (SlP.first HSO.out (i := m) (by omega))
    have HTO := hide (fun (W : World) (h : Below B w W) h2 h3 => HTS k (some ⟨o, q, none⟩) m c2 (t.of.take m) B b (L ++ (⟨#[102, 117, 110, 99, 40]⟩ : ByteArray).data.toList) W hmc2 hm2 hm21 (tys_below HDL.out h) (fun y hy => h5 y (List.mem_of_mem_take hy)) hct h2 h3 (by rw [List.length_append]; have : (⟨#[102, 117, 110, 99, 40]⟩ : ByteArray).data.toList.length = 5 := rfl; omega))
    have HO := hide (fun (W : World) (h : Below B w W) h2 h3 => H k x cs' B b (L ++ (⟨#[102, 117, 110, 99, 40]⟩ : ByteArray).data.toList ++ prTys (prT f) (t.of.take m) ++ (⟨#[41, 32]⟩ : ByteArray).data.toList) W (hpin.below h) (h5 x hxm) hcx h2 h3 (by rw [List.length_append, List.length_append, List.length_append]; have : (⟨#[102, 117, 110, 99, 40]⟩ : ByteArray).data.toList.length = 5 := rfl; have : (⟨#[41, 32]⟩ : ByteArray).data.toList.length = 2 := rfl; omega))
    cases k with
    | zero => exact hpin.elim
    | succ k =>
    obtain ⟨A7, n7, c7, A8, n8, c8, hcs', _⟩ := hpin
    subst hcs'
    have hq0 : w.cell? ⟨o, q + m * 3, none⟩ = some (.int .i64 x.kind) := by simpa using hpc 0 _ rfl
    have hq1 : w.cell? ⟨o, q + m * 3 + 1, none⟩ = some (.slice A7 n7 c7) := by simpa using hpc 1 _ rfl
    have hq2 : w.cell? ⟨o, q + m * 3 + 2, none⟩ = some (.slice A8 n8 c8) := by simpa using hpc 2 _ rfl
    have HQ := hide (And.intro hq0 (And.intro hq1 hq2))
    unfold maxLen at hm hm2
    have hmi : ((m + 1 : Nat) : Int) - 1 = (m : Int) := by omega
    have hmc : (m : Int) ≤ (c2 : Int) := by omega
    have hm0 : (0 : Int) ≤ (m : Int) := by omega
    have s5 : (⟨#[102, 117, 110, 99, 40]⟩ : ByteArray).size = 5 := rfl
    have s2 : (⟨#[41, 32]⟩ : ByteArray).size = 2 := rfl
    have l5 : (⟨#[102, 117, 110, 99, 40]⟩ : ByteArray).data.toList.length = 5 := rfl
    clear h1 h2 h3 h4 h5 hsum hcn hpc hp hc5 hno hnn hdl hgx hxm hsp hxl hne hp1 hp2 hq0 hq1 hq2 hlt hct
    rw [HPR.out]
    go_enter Try.func68, Try.ntmps68
    go_wp2_with (fail)
    refine (write_bytes B b L ⟨#[102, 117, 110, 99, 40]⟩ _ (bld_below HB.out (HA.out _)) (by simp; omega) (by omega)).mono ?_
    rintro e w1 ⟨rfl, hb1, hw1, hk1w⟩
    have HB1 := hide hb1
    have hB1 : Below B w w1 := ((HA.out _).mono hBw).trans hw1
    have HK1 := hide ((KeptBut.of_below (HA.out _)).trans hk1w)
    have hx1 := hk1w _ _ _ _ HX.out (by decide) (by omega)
    have x2 : w1.cell? ⟨w.heap.size, 2, none⟩ = some (.slice (some ⟨o, q, none⟩) (m + 1) c2) := (block_cell hx1 2).trans rfl
    have HX1 := hide hx1
    clear hb1 hw1 hk1w hx1
    go_wp2_with (fail)
    clear x2
    refine (HTO.out _ hB1 HB1.out (Nat.le_trans hBw hB1.size)).mono ?_
    rintro e w2 ⟨rfl, hb2, hw2, hk2w⟩
    have HB2 := hide hb2
    have hB2 := hB1.trans hw2
    have HK2 := hide (HK1.out.trans hk2w)
    have HX2 := hide (hk2w _ _ _ _ HX1.out (by decide) (by omega))
    clear hb2 hw2 hk2w
    go_wp2_with (fail)
    refine (write_bytes B b (L ++ (⟨#[102, 117, 110, 99, 40]⟩ : ByteArray).data.toList ++ prTys (prT f) (t.of.take m)) ⟨#[41, 32]⟩ _ HB2.out (Nat.le_trans hBw hB2.size) (by rw [List.length_append, List.length_append]; have l5 : (⟨#[102, 117, 110, 99, 40]⟩ : ByteArray).data.toList.length = 5 := rfl; have s2 : (⟨#[41, 32]⟩ : ByteArray).size = 2 := rfl; omega)).mono ?_
    rintro e w3 ⟨rfl, hb3, hw3, hk3w⟩
    have HB3 := hide hb3
    have hB3 := hB2.trans hw3
    have HK3 := hide (HK2.out.trans hk3w)
    have hx3 := hk3w _ _ _ _ HX2.out (by decide) (by omega)
    have x2 : w3.cell? ⟨w.heap.size, 2, none⟩ = some (.slice (some ⟨o, q, none⟩) (m + 1) c2) := (block_cell hx3 2).trans rfl
    have q0 : w3.cell? ⟨o, q + m * 3, none⟩ = some (.int .i64 x.kind) := (hB3.cell (p := ⟨o, q + m * 3, none⟩) hbb).trans HQ.out.1
    have q1 : w3.cell? ⟨o, q + m * 3 + 1, none⟩ = some (.slice A7 n7 c7) := (hB3.cell (p := ⟨o, q + m * 3 + 1, none⟩) hbb).trans HQ.out.2.1
    have q2 : w3.cell? ⟨o, q + m * 3 + 2, none⟩ = some (.slice A8 n8 c8) := (hB3.cell (p := ⟨o, q + m * 3 + 2, none⟩) hbb).trans HQ.out.2.2
    clear hb3 hw3 hk3w hx3
    go_wp2_with (fail)
    refine (HO.out _ hB3 HB3.out (Nat.le_trans hBw hB3.size)).mono ?_
    rintro e w4 ⟨rfl, hb4, hw4, hk4w⟩
    have HB4 := hide hb4
    have hB4 := hB3.trans hw4
    have HK4 := hide (HK3.out.trans hk4w)
    clear hb4 hw4 hk4w x2 q0 q1 q2
    go_wp2_with (fail)
    go_end0
    exact ⟨rfl, HB4.out, hB4, HK4.out⟩
theorem pAllP : ∀ f, pTyOk f
  | 0 => pTy_zero
  | f + 1 => pTy_succ (pParts_of (pTys_of (pAllP f))) (pTys_of (pAllP f)) (pAllP f)
end Go.Proofs.Ythlhiegbiapllaa
