/- Walks of isWord, reserved, and of the reference's printType and Printed (printed by gen_np.py). -/
import Derived.Test.YthlhiegbiapllaaNmPrR
import Derived.Test.YthlhiegbiapllaaNmSymE
namespace Go.Proofs.Ythlhiegbiapllaa
open Go.RowKit
set_option linter.unusedVariables false
theorem wordS_eq (s : ByteArray) : wordS s = (s.toList == [114, 101, 102] || s.toList == [108, 105, 115, 116] || s.toList == [102, 117, 110, 99]) := by
  unfold wordS refB listB funcB
  rw [ByteArray.toList_eq, Bool.eq_iff_iff]
  simp
theorem prT_succ (f : Nat) (t : Ty) : prT (f + 1) t = if t.kind = 1 then prName (prT f) t.name
    else if t.kind = 4 then funcB ++ [40] ++ prTys (prT f) t.of.dropLast ++ [41, 32] ++ lastT (prT f) t.of
    else (if t.kind = 2 then refB else listB) ++ [32] ++ headT (prT f) t.of := rfl

theorem isWord_any (s : ByteArray) (w : World) : Calls Try.prog 66 #[.string s] w fun e w' => e = .returned (.bool (wordS s)) ∧ w' = w := by
  rw [wordS_eq]
  go_enter Try.func66, Try.ntmps66
  go_wp2_with (fail)
  all_goals go_ret
  all_goals exact ⟨by simp [*], rfl⟩
theorem reserved_any (s : ByteArray) (w : World) : Calls Try.prog 79 #[.string s] w fun e w' => e = .returned (.bool (wordS s)) ∧ w' = w := by
  rw [wordS_eq]
  go_enter Try.func79, Try.ntmps79
  go_wp2_with (fail)
  all_goals go_ret
  all_goals exact ⟨by simp [*], rfl⟩
theorem rTy_zero : rTyOk 0 := fun _ _ _ _ _ h => h.elim
theorem wd_plain {f : Nat} {t : Ty} (hk : t.kind = 1) (ho : t.of = []) : wd (f + 1) t = (headW t.name || wdParts f t.name) := by
  unfold wd wdParts wdTys; rw [ho, hk]; simp
theorem wd_other {f : Nat} {t : Ty} (hk : t.kind ≠ 1) (hn : t.name = []) : wd (f + 1) t = wdTys f t.of := by
  unfold wd wdTys; rw [hn]; simp [hk, headW]
theorem cnt_plain {f : Nat} {t : Ty} (ho : t.of = []) : cnt (f + 1) t = 1 + cntParts f t.name := by
  unfold cnt cntParts cntTys; rw [ho, sumN_nil]; (try omega)
theorem cnt_other {f : Nat} {t : Ty} (hn : t.name = []) : cnt (f + 1) t = 1 + cntTys f t.of := by
  unfold cnt cntTys; rw [hn, sumN_nil]; (try omega)
theorem cntTys_one (f : Nat) (x : Ty) : cntTys f [x] = cnt f x := by simp [cntTys, sumN]
set_option maxRecDepth 100000 in
set_option maxHeartbeats 16000000 in
theorem rTy_succ {f : Nat} (HNA : rNameOk f) (HTS : rTysOk f) (H : rTyOk f) : rTyOk (f + 1) := by
  intro k t cs w hin hg hc5
  cases k with
  | zero => exact hin.elim
  | succ k =>
  obtain ⟨A, n, c, A2, n2, c2, rfl, hn, hm, hn2, hm2, hl, hl2⟩ := hin
  obtain ⟨⟨hk1, hk4⟩, h1, h2, h3, h4, h5⟩ := hg
  have HLN := hide hl.len
  have HLO := hide hl2.len
  have HB0 := hide (fun ob : Obj => show Below w.heap.size w (w.alloc ob) from (Below.refl _ _).alloc (Nat.le_refl _) ob)
  have HSL := hide hl
  have HSO := hide hl2
  have HX := hide (heap_alloc_new w (.cells #[.int .i64 t.kind, .slice A n c, .slice A2 n2 c2] 52))
  obtain ⟨K, hKd⟩ : ∃ K, t.kind = K := ⟨_, rfl⟩
  rw [hKd] at HX hk1 hk4 h1 h2 h3
  rw [hKd]
  have HKD := hide hKd
  have HCT := hide hc5
  clear hl hl2 hKd
  rcases (show K = 1 ∨ K = 2 ∨ K = 3 ∨ K = 4 by omega) with rfl | rfl | rfl | rfl
  · obtain ⟨ho, hp1, hp2⟩ := h1 rfl
    have hcn := cnt_plain (f := f) ho
    have hwd := wd_plain (f := f) HKD.out ho
    have hpr : prT (f + 1) t = prName (prT f) t.name := by rw [prT_succ, if_pos HKD.out]
    have hnn := HLN.out
    have HNO := hide (fun ob : Obj => HNA k A n c t.name (w.alloc ob) hn hm (by omega) (parts_up HSL.out (HB0.out ob)) h4 (by omega))
    obtain ⟨b, o, p, cs', hA, hb, hp, hpin, hpc⟩ := HSL.out.at_ (k := 0) (by omega)
    subst hA
    obtain ⟨A7, n7, c7, hcs', hps, _⟩ := hpin
    subst hcs'
    have hpc0 : w.cell? ⟨b, o, none⟩ = some (.string p.1) := by simpa using hpc 0 _ rfl
    have HPC := hide hpc0
    have hhw : headW t.name = wordS p.1 := by
      unfold headW
      split
      · rename_i e; rw [e] at hp; cases hp
      · rename_i q r e; rw [e] at hp; simp at hp; subst hp; rfl
    have HRS := hide (fun W => reserved_any p.1 W)
    have HHW := hide (hwd.trans (by rw [hhw]))
    have HPR := hide hpr
    have HCN := hide hcn
    unfold maxLen at hm hm2
    have hn0 : 0 < n := by omega
    have hn0i : (0 : Int) < (n : Int) := by omega
    clear h1 h2 h3 h4 h5 hwd hhw hpr hcn hpc hpc0 hp ho hc5 hps
    cases hwp : wdParts f t.name
    · rw [hwp] at HNO HHW
      simp only [Bool.or_false] at HHW
      cases hws : wordS p.1
      · rw [hws] at HRS HHW
        rw [HHW.out]
        go_enter Try.func70, Try.ntmps70
        go_wp2_with (first | (go_at_call 44; refine (HNO.out _).mono ?_; rintro e w2 ⟨⟨s, rfl, hsz, hs⟩, hw2⟩; have hB2 : Below w.heap.size w w2 := (HB0.out _).trans (hw2.mono (by simp)); have x1 : w2.cell? ⟨w.heap.size, 1, none⟩ = some (.slice (some ⟨b, o, none⟩) n c) := (block_cell (block_below HX.out hw2) 1).trans rfl; have p0 : w2.cell? ⟨b, o, none⟩ = some (.string p.1) := (hB2.cell (p := ⟨b, o, none⟩) hb).trans HPC.out; have HSZ := hide hsz; have HS := hide (hs rfl); clear hw2 hs hsz) | (go_at_call 79; refine (HRS.out _).mono ?_; rintro e w' ⟨rfl, rfl⟩))
        go_ret2
        exact ⟨⟨s, rfl, by have := HSZ.out; have := HCN.out; omega, fun _ => by rw [HS.out]; unfold prB; rw [HPR.out]⟩, hB2⟩
      · rw [hws] at HRS HHW
        rw [HHW.out]
        go_enter Try.func70, Try.ntmps70
        go_wp2_with (first | (go_at_call 44; refine (HNO.out _).mono ?_; rintro e w2 ⟨⟨s, rfl, hsz, hs⟩, hw2⟩; have hB2 : Below w.heap.size w w2 := (HB0.out _).trans (hw2.mono (by simp)); have x1 : w2.cell? ⟨w.heap.size, 1, none⟩ = some (.slice (some ⟨b, o, none⟩) n c) := (block_cell (block_below HX.out hw2) 1).trans rfl; have p0 : w2.cell? ⟨b, o, none⟩ = some (.string p.1) := (hB2.cell (p := ⟨b, o, none⟩) hb).trans HPC.out; have HSZ := hide hsz; clear hw2 hs hsz) | (go_at_call 79; refine (HRS.out _).mono ?_; rintro e w' ⟨rfl, rfl⟩))
        go_ret2
        exact ⟨⟨s, rfl, by have := HSZ.out; have := HCN.out; omega, fun h => by cases h⟩, hB2⟩
    · rw [hwp] at HNO HHW
      simp only [Bool.or_true] at HHW
      rw [HHW.out]
      go_enter Try.func70, Try.ntmps70
      go_wp2_with (go_at_call 44; refine (HNO.out _).mono ?_; rintro e w2 ⟨⟨s, rfl, hsz, hs⟩, hw2⟩; have hB2 : Below w.heap.size w w2 := (HB0.out _).trans (hw2.mono (by simp)); have HSZ := hide hsz; clear hw2 hs hsz)
      go_ret2
      exact ⟨⟨s, rfl, by have := HSZ.out; have := HCN.out; omega, fun h => by cases h⟩, hB2⟩

  · obtain ⟨hno, hp1, hp2⟩ := h2 (by decide)
    have hone := h3 (.inl rfl)
    obtain ⟨x, hx⟩ : ∃ x, t.of = [x] := by
      match t.of, hone with
      | [x], _ => exact ⟨x, rfl⟩
    have hcn := cnt_other (f := f) hno
    have hwd := wd_other (f := f) (t := t) (by rw [HKD.out]; decide) hno
    rw [hx] at hcn hwd
    rw [cntTys_one] at hcn
    have hwx : wdTys f [x] = wd f x := by simp [wdTys]
    rw [hwx] at hwd
    have hpr : prT (f + 1) t = refB ++ [32] ++ prT f x := by rw [prT_succ, if_neg (by rw [HKD.out]; decide), if_neg (by rw [HKD.out]; decide), if_pos HKD.out, hx]; rfl
    have hnn := HLO.out
    rw [hx] at hnn
    have hn21 : n2 = 1 := by simpa using hnn.symm
    subst hn21
    obtain ⟨b, o, x', cs', hA, hb, hp, hpin, hpc⟩ := HSO.out.at_ (k := 0) (by omega)
    subst hA
    have hxx : x = x' := by rw [hx] at hp; simpa using hp
    subst hxx
    have HO := hide (fun ob : Obj => H k x cs' (w.alloc ob) (hpin.up (HB0.out ob)) (h5 x (by rw [hx]; simp)) (by omega))
    cases k with
    | zero => exact hpin.elim
    | succ k =>
    obtain ⟨A7, n7, c7, A8, n8, c8, hcs', _⟩ := hpin
    subst hcs'
    have q0 : w.cell? ⟨b, o, none⟩ = some (.int .i64 x.kind) := by simpa using hpc 0 _ rfl
    have q1 : w.cell? ⟨b, o + 1, none⟩ = some (.slice A7 n7 c7) := by simpa using hpc 1 _ rfl
    have q2 : w.cell? ⟨b, o + 2, none⟩ = some (.slice A8 n8 c8) := by simpa using hpc 2 _ rfl
    have HPR := hide hpr
    have HCN := hide hcn
    have hcb : cnt f x ≤ 500 := by omega
    unfold maxLen at hm hm2
    have HHW := hide hwd
    clear h1 h2 h3 h4 h5 hwd hwx hpr hcn hpc hp hc5 hx hone hnn hno
    obtain ⟨vw, hvw⟩ : ∃ vw, wd f x = vw := ⟨_, rfl⟩
    rw [hvw] at HO HHW
    rw [HHW.out]
    clear hvw
    go_enter Try.func70, Try.ntmps70
    go_wp2_with (go_at_call 70; refine (HO.out _).mono ?_; rintro e w2 ⟨⟨s, rfl, hsz, hs⟩, hw2⟩; have hB2 : Below w.heap.size w w2 := (HB0.out _).trans (hw2.mono (by simp)); have HS := hide hs; have hss : s.size ≤ 800000 := by omega)
    go_ret2
    exact ⟨⟨⟨#[114, 101, 102, 32]⟩ ++ s, rfl, by rw [ByteArray.size_append]; have h0 : (⟨#[114, 101, 102, 32]⟩ : ByteArray).size = 4 := rfl; have := HCN.out; omega, fun h => by rw [HS.out h]; unfold prB; rw [HPR.out]; exact bytes_eq (by simp [ByteArray.data_append, refB])⟩, hB2⟩

  · obtain ⟨hno, hp1, hp2⟩ := h2 (by decide)
    have hone := h3 (.inr rfl)
    obtain ⟨x, hx⟩ : ∃ x, t.of = [x] := by
      match t.of, hone with
      | [x], _ => exact ⟨x, rfl⟩
    have hcn := cnt_other (f := f) hno
    have hwd := wd_other (f := f) (t := t) (by rw [HKD.out]; decide) hno
    rw [hx] at hcn hwd
    rw [cntTys_one] at hcn
    have hwx : wdTys f [x] = wd f x := by simp [wdTys]
    rw [hwx] at hwd
    have hpr : prT (f + 1) t = listB ++ [32] ++ prT f x := by rw [prT_succ, if_neg (by rw [HKD.out]; decide), if_neg (by rw [HKD.out]; decide), if_neg (by rw [HKD.out]; decide), hx]; rfl
    have hnn := HLO.out
    rw [hx] at hnn
    have hn21 : n2 = 1 := by simpa using hnn.symm
    subst hn21
    obtain ⟨b, o, x', cs', hA, hb, hp, hpin, hpc⟩ := HSO.out.at_ (k := 0) (by omega)
    subst hA
    have hxx : x = x' := by rw [hx] at hp; simpa using hp
    subst hxx
    have HO := hide (fun ob : Obj => H k x cs' (w.alloc ob) (hpin.up (HB0.out ob)) (h5 x (by rw [hx]; simp)) (by omega))
    cases k with
    | zero => exact hpin.elim
    | succ k =>
    obtain ⟨A7, n7, c7, A8, n8, c8, hcs', _⟩ := hpin
    subst hcs'
    have q0 : w.cell? ⟨b, o, none⟩ = some (.int .i64 x.kind) := by simpa using hpc 0 _ rfl
    have q1 : w.cell? ⟨b, o + 1, none⟩ = some (.slice A7 n7 c7) := by simpa using hpc 1 _ rfl
    have q2 : w.cell? ⟨b, o + 2, none⟩ = some (.slice A8 n8 c8) := by simpa using hpc 2 _ rfl
    have HPR := hide hpr
    have HCN := hide hcn
    have hcb : cnt f x ≤ 500 := by omega
    unfold maxLen at hm hm2
    have HHW := hide hwd
    clear h1 h2 h3 h4 h5 hwd hwx hpr hcn hpc hp hc5 hx hone hnn hno
    obtain ⟨vw, hvw⟩ : ∃ vw, wd f x = vw := ⟨_, rfl⟩
    rw [hvw] at HO HHW
    rw [HHW.out]
    clear hvw
    go_enter Try.func70, Try.ntmps70
    go_wp2_with (go_at_call 70; refine (HO.out _).mono ?_; rintro e w2 ⟨⟨s, rfl, hsz, hs⟩, hw2⟩; have hB2 : Below w.heap.size w w2 := (HB0.out _).trans (hw2.mono (by simp)); have HS := hide hs; have hss : s.size ≤ 800000 := by omega)
    go_ret2
    exact ⟨⟨⟨#[108, 105, 115, 116, 32]⟩ ++ s, rfl, by rw [ByteArray.size_append]; have h0 : (⟨#[108, 105, 115, 116, 32]⟩ : ByteArray).size = 5 := rfl; have := HCN.out; omega, fun h => by rw [HS.out h]; unfold prB; rw [HPR.out]; exact bytes_eq (by simp [ByteArray.data_append, listB])⟩, hB2⟩

  · obtain ⟨hno, hp1, hp2⟩ := h2 (by decide)
    have hcn := cnt_other (f := f) hno
    have hwd := wd_other (f := f) (t := t) (by rw [HKD.out]; decide) hno
    have hne : t.of ≠ [] := fun e => by rw [e] at hp1; simp at hp1
    have hsp := List.dropLast_concat_getLast hne
    obtain ⟨x, hxl⟩ : ∃ x, t.of.getLast hne = x := ⟨_, rfl⟩
    rw [hxl] at hsp
    have hxm : x ∈ t.of := by rw [← hxl]; exact List.getLast_mem hne
    have hpr : prT (f + 1) t = funcB ++ [40] ++ prTys (prT f) t.of.dropLast ++ [41, 32] ++ prT f x := by
      rw [prT_succ, if_neg (by rw [HKD.out]; decide), if_pos HKD.out]
      unfold lastT
      rw [List.getLast?_eq_some_getLast hne, hxl]
    have hsum : cntTys f t.of = cntTys f t.of.dropLast + cnt f x := by
      conv => lhs; rw [← hsp]
      rw [cntTys_append, cntTys_one]
    have hany : wdTys f t.of = (wdTys f t.of.dropLast || wd f x) := by
      conv => lhs; rw [← hsp]
      unfold wdTys
      rw [List.any_append]; simp
    have hnn := HLO.out
    obtain ⟨m, hm1⟩ : ∃ m, m + 1 = n2 := ⟨n2 - 1, by omega⟩
    subst hm1
    have hdl : t.of.dropLast = t.of.take m := by rw [List.dropLast_eq_take, hnn, Nat.add_sub_cancel]
    have hgx : t.of[m]? = some x := by
      rw [← hxl, List.getLast_eq_getElem, ← List.getElem?_eq_getElem]
      congr 1; omega
    obtain ⟨b, o, x', cs', hA, hb, hp, hpin, hpc⟩ := HSO.out.at_ (k := m) (by omega)
    subst hA
    have hxx : x = x' := Option.some.inj (hgx.symm.trans hp)
    subst hxx
    have HPI := hide hpin
    have HDL := hide (SlP.first HSO.out (i := m) (by omega))
    have HTO := hide (fun ob : Obj => HTS k (some ⟨b, o, none⟩) m c2 (t.of.take m) (w.alloc ob) (by omega) hm2 (by omega) (tys_up HDL.out (HB0.out ob)) (fun y hy => h5 y (List.mem_of_mem_take hy)) (by rw [← hdl]; omega))
    have HO := hide (fun (W : World) (h : Below w.heap.size w W) => H k x cs' W (HPI.out.up h) (h5 x hxm) (by omega))
    cases k with
    | zero => exact hpin.elim
    | succ k =>
    obtain ⟨A7, n7, c7, A8, n8, c8, hcs', _⟩ := hpin
    subst hcs'
    have hq0 : w.cell? ⟨b, o + m * 3, none⟩ = some (.int .i64 x.kind) := by simpa using hpc 0 _ rfl
    have hq1 : w.cell? ⟨b, o + m * 3 + 1, none⟩ = some (.slice A7 n7 c7) := by simpa using hpc 1 _ rfl
    have hq2 : w.cell? ⟨b, o + m * 3 + 2, none⟩ = some (.slice A8 n8 c8) := by simpa using hpc 2 _ rfl
    have HQ := hide (And.intro hq0 (And.intro hq1 hq2))
    have HPR := hide hpr
    have HCN := hide (hcn.trans (by rw [hsum]))
    have hcb : cnt f x ≤ 500 := by omega
    have hcb2 : cntTys f t.of.dropLast ≤ 500 := by omega
    have HHW := hide (hwd.trans hany)
    rw [hdl] at hcb2 HCN HPR HHW
    unfold maxLen at hm hm2
    have hmi : ((m + 1 : Nat) : Int) - 1 = (m : Int) := by omega
    have hmc : (m : Int) ≤ (c2 : Int) := by omega
    have hm0 : (0 : Int) ≤ (m : Int) := by omega
    clear h1 h2 h3 h4 h5 hwd hany hpr hcn hsum hpc hp hc5 hno hnn hdl hgx hxm hsp hxl hne hp1 hp2 hq0 hq1 hq2
    obtain ⟨va, hva⟩ : ∃ va, wdTys f (t.of.take m) = va := ⟨_, rfl⟩
    obtain ⟨vw, hvw⟩ : ∃ vw, wd f x = vw := ⟨_, rfl⟩
    rw [hva] at HTO HHW
    rw [hvw] at HO HHW
    rw [HHW.out]
    clear hva hvw
    cases va

    · go_enter Try.func70, Try.ntmps70
      go_wp2_with (first | (go_at_call 45; refine (HTO.out _).mono ?_; rintro e w2 ⟨⟨s, rfl, hsz, hs⟩, hw2⟩; have hB2 : Below w.heap.size w w2 := (HB0.out _).trans (hw2.mono (by simp)); have HS := hide hs; have hss : s.size ≤ 800000 := (by omega); have x2 : w2.cell? ⟨w.heap.size, 2, none⟩ = some (.slice (some ⟨b, o, none⟩) (m + 1) c2) := (block_cell (block_below HX.out hw2) 2).trans rfl; have q0 : w2.cell? ⟨b, o + m * 3, none⟩ = some (.int .i64 x.kind) := (hB2.cell (p := ⟨b, o + m * 3, none⟩) hb).trans HQ.out.1; have q1 : w2.cell? ⟨b, o + m * 3 + 1, none⟩ = some (.slice A7 n7 c7) := (hB2.cell (p := ⟨b, o + m * 3 + 1, none⟩) hb).trans HQ.out.2.1; have q2 : w2.cell? ⟨b, o + m * 3 + 2, none⟩ = some (.slice A8 n8 c8) := (hB2.cell (p := ⟨b, o + m * 3 + 2, none⟩) hb).trans HQ.out.2.2; clear hs hw2) | (go_at_call 70; refine (HO.out _ hB2).mono ?_; rintro e w3 ⟨⟨s2, rfl, hsz2, hs2⟩, hw3⟩; have hB3 := hB2.trans (hw3.mono hB2.size); have HS2 := hide hs2; have hss2 : s2.size ≤ 800000 := (by omega); clear hs2 hw3))
      go_ret2
      exact ⟨⟨⟨#[102, 117, 110, 99, 40]⟩ ++ s ++ ⟨#[41, 32]⟩ ++ s2, rfl, by rw [ByteArray.size_append, ByteArray.size_append, ByteArray.size_append]; have h0 : (⟨#[102, 117, 110, 99, 40]⟩ : ByteArray).size = 5 := rfl; have h9 : (⟨#[41, 32]⟩ : ByteArray).size = 2 := rfl; have := HCN.out; omega, fun h => by rw [HS.out (by first | trivial | rfl), HS2.out (by simpa using h)]; unfold prB; rw [HPR.out]; exact bytes_eq (by simp [ByteArray.data_append, funcB])⟩, hB3⟩

    · go_enter Try.func70, Try.ntmps70
      go_wp2_with (first | (go_at_call 45; refine (HTO.out _).mono ?_; rintro e w2 ⟨⟨s, rfl, hsz, hs⟩, hw2⟩; have hB2 : Below w.heap.size w w2 := (HB0.out _).trans (hw2.mono (by simp)); have HS := hide hs; have hss : s.size ≤ 800000 := (by omega); have x2 : w2.cell? ⟨w.heap.size, 2, none⟩ = some (.slice (some ⟨b, o, none⟩) (m + 1) c2) := (block_cell (block_below HX.out hw2) 2).trans rfl; have q0 : w2.cell? ⟨b, o + m * 3, none⟩ = some (.int .i64 x.kind) := (hB2.cell (p := ⟨b, o + m * 3, none⟩) hb).trans HQ.out.1; have q1 : w2.cell? ⟨b, o + m * 3 + 1, none⟩ = some (.slice A7 n7 c7) := (hB2.cell (p := ⟨b, o + m * 3 + 1, none⟩) hb).trans HQ.out.2.1; have q2 : w2.cell? ⟨b, o + m * 3 + 2, none⟩ = some (.slice A8 n8 c8) := (hB2.cell (p := ⟨b, o + m * 3 + 2, none⟩) hb).trans HQ.out.2.2; clear hs hw2) | (go_at_call 70; refine (HO.out _ hB2).mono ?_; rintro e w3 ⟨⟨s2, rfl, hsz2, hs2⟩, hw3⟩; have hB3 := hB2.trans (hw3.mono hB2.size); have HS2 := hide hs2; have hss2 : s2.size ≤ 800000 := (by omega); clear hs2 hw3))
      go_ret2
      exact ⟨⟨⟨#[102, 117, 110, 99, 40]⟩ ++ s ++ ⟨#[41, 32]⟩ ++ s2, by simp, by rw [ByteArray.size_append, ByteArray.size_append, ByteArray.size_append]; have h0 : (⟨#[102, 117, 110, 99, 40]⟩ : ByteArray).size = 5 := rfl; have h9 : (⟨#[41, 32]⟩ : ByteArray).size = 2 := rfl; have := HCN.out; omega, fun h => by simp at h⟩, hB3⟩

theorem rAllP : ∀ f, rTyOk f
  | 0 => rTy_zero
  | f + 1 => rTy_succ (rName_of (rTys_of (rAllP f))) (rTys_of (rAllP f)) (rAllP f)
end Go.Proofs.Ythlhiegbiapllaa
