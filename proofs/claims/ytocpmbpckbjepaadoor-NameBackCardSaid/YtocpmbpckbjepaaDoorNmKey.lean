/- Walks of key, and of its closures (printed by gen_mk.py). -/
import Derived.Test.YtocpmbpckbjepaaDoorNmMgH
import Derived.Laws.EntriesVeiled
namespace Go.Proofs.YtocpmbpckbjepaaDoor
open Go.RowKit
set_option linter.unusedVariables false
set_option linter.unusedSimpArgs false
/-- The boxes of the closures. -/
def KyB (bb lb ob : Nat) (w : World) : Prop :=
  w.heap[lb]? = some (.cells #[.func (.func 75) #[] #[.pointer (some ⟨bb, 0, none⟩), .pointer (some ⟨ob, 0, none⟩)]] 129 (0, 0)) ∧
  w.heap[ob]? = some (.cells #[.func (.func 76) #[] #[.pointer (some ⟨bb, 0, none⟩), .pointer (some ⟨lb, 0, none⟩), .pointer (some ⟨ob, 0, none⟩)]] 93 (0, 0)) ∧ lb ≠ bb ∧ ob ≠ bb
theorem KyB.kept {bb lb ob : Nat} {w w' : World} (h : KyB bb lb ob w) (hk : KeptBut bb w w') : KyB bb lb ob w' :=
  ⟨hk _ _ _ _ h.1 (by decide) h.2.2.1, hk _ _ _ _ h.2.1 (by decide) h.2.2.2, h.2.2.1, h.2.2.2⟩
/-- What a closure of key has done. -/
structure KyR (B bb : Nat) (L : List UInt8) (w w' : World) : Prop where
  bld : Bld B bb (Lib.byteCells L) w'
  be : Below B w w'
  kept : KeptBut bb w w'
theorem KyR.trans {B bb : Nat} {L L' : List UInt8} {w w1 w2 : World} (h : KyR B bb L w w1) (h' : KyR B bb L' w1 w2) : KyR B bb L' w w2 := ⟨h'.bld, h.be.trans h'.be, h.kept.trans h'.kept⟩
theorem KyR.below {B bb : Nat} {L : List UInt8} {w w1 w2 : World} (h : KyR B bb L w w1) (hB : B ≤ w.heap.size) (h' : Below w1.heap.size w1 w2) : KyR B bb L w w2 := ⟨bld_below h.bld h', h.be.trans (h'.mono (Nat.le_trans hB h.be.size)), h.kept.trans (KeptBut.of_below h')⟩
def kTyOk (f : Nat) : Prop := ∀ (k : Nat) (t : Ty) (cs : List Value) (B bb lb ob : Nat) (L : List UInt8) (w : World), TyIn w B k t cs → Good f t → cnt f t ≤ 500 → Bld B bb (Lib.byteCells L) w → KyB bb lb ob w → Tab10 B w → B ≤ w.heap.size → L.length + 4000000 * f ≤ 100000000 →
  Calls Tryd.prog 76 #[.agg cs.toArray, .pointer (some ⟨bb, 0, none⟩), .pointer (some ⟨lb, 0, none⟩), .pointer (some ⟨ob, 0, none⟩)] w fun e w' => e = .returned (.tuple #[]) ∧ KyR B bb (L ++ kyT f t) w w'
def kTysOk (f : Nat) : Prop := ∀ (k : Nat) (A : Option Addr) (n cap : Nat) (l : List Ty) (s : ByteArray) (B bb lb ob : Nat) (L : List UInt8) (w : World), n ≤ cap → cap ≤ maxLen → n ≤ 21 → s.size ≤ 1 → Tys w B k A n l → GoodTys f l → cntTys f l ≤ 500 → Bld B bb (Lib.byteCells L) w → KyB bb lb ob w → Tab10 B w → B ≤ w.heap.size → L.length + 4000000 * f + 1000000 ≤ 100000000 →
  Calls Tryd.prog 75 #[.slice A n cap, .string s, .pointer (some ⟨bb, 0, none⟩), .pointer (some ⟨ob, 0, none⟩)] w fun e w' => e = .returned (.tuple #[]) ∧ KyR B bb (L ++ s.data.toList ++ l.flatMap (kyT f) ++ [69]) w w'
theorem kTy_zero : kTyOk 0 := fun _ _ _ _ _ _ _ _ _ _ h => h.elim
set_option maxRecDepth 100000 in
set_option maxHeartbeats 8000000 in
theorem kTys_of {f : Nat} (H : kTyOk f) : kTysOk f := by
  intro k A n cap l s B bb lb ob L w hnc hcm hn hs1 hl hg hc5 hb hky htb hBw hLL
  unfold maxLen at hcm
  have HL := hide hl.len
  have HSL := hide hl
  have HG := hide hg
  have HH := hide H
  have HB := hide hb
  have HKY := hide hky
  have HTB := hide htb
  have HCM := hide (fun t (ht : t ∈ l) => Nat.le_trans (cnt_mem (f := f) ht) hc5)
  have HLN := hide (fun j => Nat.le_trans (kyTys_len (f := f) (l := l.take j) (fun x hx => ky_len f x (hg x (List.mem_of_mem_take hx)))) (Nat.mul_le_mul_left 1400 (Nat.le_trans (cntTys_take f l j) hc5)))
  have hsl : s.data.toList.length ≤ 1 := by rw [Array.length_toList]; exact hs1
  clear hl hg H hb hc5 hky htb
  go_enter Tryd.func75, Tryd.ntmps75
  go_wp2_with (go_at_call 17; refine (write_bytes B bb L s w HB.out hBw (by omega)).mono ?_; rintro e w1 ⟨rfl, hb1, hw1, hk1⟩; have HR1 := hide (KyR.mk hb1 hw1 hk1); have hz1 := hw1.size; clear hb1 hw1 hk1)
  go_loopw [12] (fun i wr => ∃ j : Nat, j ≤ n ∧ i = .int .i64 j ∧ KyR B bb (L ++ s.data.toList ++ (l.take j).flatMap (kyT f)) w wr) (fun i _ => n - (intOf i).toNat)
  case atStart => exact ⟨0, Nat.zero_le _, rfl, by simpa using HR1.out⟩
  case round =>
    obtain ⟨j, hj, rfl, hR⟩ := hrel
    have hz := Nat.le_trans hBw hR.be.size
    have HR := hide hR
    by_cases hlt : j < n
    · obtain ⟨o, q, t, cs, rfl, hq, ht, hin, hcs⟩ := (tys_below HSL.out hR.be).at_ hlt
      have hm := List.mem_of_getElem? ht
      have hlj := HLN.out j
      have HST := hide (show L ++ s.data.toList ++ (l.take (j + 1)).flatMap (kyT f) = L ++ s.data.toList ++ (l.take j).flatMap (kyT f) ++ kyT f t by rw [take_succ_get ht, List.flatMap_append]; simp)
      obtain ⟨L1, hL1⟩ : ∃ L1, L ++ s.data.toList ++ (l.take j).flatMap (kyT f) = L1 := ⟨_, rfl⟩
      have hl1 : L1.length ≤ L.length + 700001 := by rw [← hL1, List.length_append, List.length_append]; omega
      rw [hL1] at HR HST
      have HO := hide (fun (W : World) (h : Below B wr W) h2 h3 h4 h5 => HH.out k t cs B bb lb ob L1 W (hin.below h) (HG.out t hm) (HCM.out t hm) h2 h3 h4 h5 (by omega))
      cases k with
      | zero => exact hin.elim
      | succ k =>
      obtain ⟨A1, n1, cap1, A2, n2, cap2, rfl, _⟩ := hin
      have c0 : wr.cell? ⟨o, q + j * 3, none⟩ = some (.int .i64 t.kind) := by simpa using hcs 0 _ rfl
      have c1 : wr.cell? ⟨o, q + j * 3 + 1, none⟩ = some (.slice A1 n1 cap1) := hcs 1 _ rfl
      have c2 : wr.cell? ⟨o, q + j * 3 + 2, none⟩ = some (.slice A2 n2 cap2) := hcs 2 _ rfl
      have HA := hide ((Below.refl wr.heap.size wr).alloc (Nat.le_refl _) (.cells #[.int .i64 t.kind, .slice A1 n1 cap1, .slice A2 n2 cap2] 75))
      have HR2 := hide (HR.out.below hBw HA.out)
      have HK2 := hide (HKY.out.kept HR2.out.kept)
      have HX := hide (heap_alloc_new wr (.cells #[.int .i64 t.kind, .slice A1 n1 cap1, .slice A2 n2 cap2] 75))
      have x0 : (wr.alloc (.cells #[.int .i64 t.kind, .slice A1 n1 cap1, .slice A2 n2 cap2] 75)).cell? ⟨ob, 0, none⟩ = some (.func (.func 76) #[] #[.pointer (some ⟨bb, 0, none⟩), .pointer (some ⟨lb, 0, none⟩), .pointer (some ⟨ob, 0, none⟩)]) := block_cell HK2.out.2.1 0
      have HC := hide (HO.out _ (HA.out.mono hz) HR2.out.bld HK2.out (HTB.out.below HR2.out.be) (by simp; omega))
      clear hcs ht hm hL1 hlj hR HO
      go_wp2_with (go_at_call 76; refine HC.out.mono ?_; rintro e w2 ⟨rfl, hr2⟩; have HR3 := hide (HR2.out.trans hr2); clear hr2)
      go_roundw
      case rel => exact ⟨j + 1, by omega, by go_num, by rw [HST.out]; exact HR3.out⟩
      case measure => simp [intOf]; omega
    · obtain rfl : j = n := by omega
      have htk : l.take j = l := take_len l (by rw [HL.out]; exact Nat.le_refl _)
      have hlj := HLN.out j
      rw [htk] at HR hlj
      clear htk hR
      go_wp2_with (go_at_call 17; refine (write_bytes B bb _ ⟨#[69]⟩ wr HR.out.bld hz (by simp only [List.length_append]; have : (⟨#[69]⟩ : ByteArray).size = 1 := rfl; omega)).mono ?_; rintro e w1 ⟨rfl, hb1, hw1, hk1⟩; have HR1 := hide (HR.out.trans (KyR.mk hb1 hw1 hk1)); clear hb1 hw1 hk1)
      go_end0
      exact ⟨rfl, HR1.out⟩
set_option maxRecDepth 100000 in
set_option maxHeartbeats 8000000 in
theorem kTy_succ {f : Nat} (HT : kTysOk f) (H : kTyOk f) : kTyOk (f + 1) := by
  intro k t cs B bb lb ob L w hin hg hc5 hb hky htb hBw hLL
  rw [Nat.mul_add_one, ← Nat.add_assoc] at hLL
  cases k with
  | zero => exact hin.elim
  | succ k =>
  obtain ⟨A, n, c, A2, n2, cp2, rfl, hn, hm, hn2, hm2, hl, hl2⟩ := hin
  obtain ⟨⟨hk1, hk4⟩, h1, h2, h3, h4, h5⟩ := hg
  have HLN := hide hl.len
  have HLO := hide hl2.len
  have HSL := hide hl
  have HSO := hide hl2
  have HTB := hide htb
  have HKY := hide hky
  obtain ⟨K, hKd⟩ : ∃ K, t.kind = K := ⟨_, rfl⟩
  rw [cnt_eq] at hc5
  rw [hKd] at hk1 hk4 h1 h2 h3 ⊢
  have HKD := hide hKd
  have HA := hide ((Below.refl w.heap.size w).alloc (Nat.le_refl _) (.cells #[.int .i64 K, .slice A n c, .slice A2 n2 cp2] 75))
  have HX := hide (heap_alloc_new w (.cells #[.int .i64 K, .slice A n c, .slice A2 n2 cp2] 75))
  have HR0 := hide ((KyR.mk hb (Below.refl _ _) (KeptBut.refl _ _)).below hBw HA.out)
  have HK0 := hide (hky.kept HR0.out.kept)
  have hne : bb ≠ w.heap.size := fun e => by have := bld_lt hb; omega
  have hz0 := HR0.out.be.size
  clear hl hl2 hKd hb hky htb
  rcases (show K = 1 ∨ K = 4 ∨ K = 2 ∨ K = 3 by omega) with rfl | rfl | rfl | rfl
  · obtain ⟨ho, hp1, hp2⟩ := h1 rfl
    have HKT := hide (show L ++ kyT (f + 1) t = L ++ (⟨#[78]⟩ : ByteArray).data.toList ++ t.name.flatMap (kyPart (kyT f)) ++ (⟨#[69]⟩ : ByteArray).data.toList by rw [kyT, if_pos HKD.out]; simp)
    rw [HKT.out]
    have x0 : (w.alloc (.cells #[.int .i64 1, .slice A n c, .slice A2 n2 cp2] 75)).cell? ⟨w.heap.size, 0, none⟩ = some (.int .i64 1) := block_cell HX.out 0
    have HCW := hide (write_bytes B bb L ⟨#[78]⟩ _ HR0.out.bld (by omega) (by have : (⟨#[78]⟩ : ByteArray).size = 1 := rfl; omega))
    have hnn := HLN.out
    have hn20 : n ≤ 20 := by omega
    have HNL := hide (fun j => Nat.le_trans (kyParts_len (f := f) (l := t.name.take j) (fun p hp => ⟨(h4 p (List.mem_of_mem_take hp)).1, fun x hx => ky_len f x ((h4 p (List.mem_of_mem_take hp)).2.2 x hx)⟩)) (Nat.add_le_add (Nat.mul_le_mul_left 64 (show (t.name.take j).length ≤ 20 by rw [List.length_take]; omega)) (Nat.mul_le_mul_left 1400 (Nat.le_trans (cntParts_take f t.name j) (show cntParts f t.name ≤ 500 by omega)))))
    have HCP := hide (fun p (hp : p ∈ t.name) => Nat.le_trans (cnt_part (f := f) hp) (show cntParts f t.name ≤ 500 by omega))
    have H4 := hide h4
    have hs69 : (⟨#[69]⟩ : ByteArray).size = 1 := rfl
    clear h1 h2 h3 h4 h5 hc5 ho
    go_enter Tryd.func76, Tryd.ntmps76
    go_wp2_with (go_at_call 17; refine HCW.out.mono ?_; rintro e w1 ⟨rfl, hb1, hw1, hk1⟩; have HR1 := hide (HR0.out.trans (KyR.mk hb1 hw1 hk1)); have HX1 := hide (hk1 _ _ _ _ HX.out (by decide) hne.symm); have z1 : w1.cell? ⟨w.heap.size, 1, none⟩ = some (.slice A n c) := block_cell HX1.out 1; clear hb1 hw1 hk1 HCW)
    go_loopw [26] (fun i wr => ∃ j : Nat, j ≤ n ∧ i = .int .i64 j ∧ KyR B bb (L ++ (⟨#[78]⟩ : ByteArray).data.toList ++ (t.name.take j).flatMap (kyPart (kyT f))) w wr) (fun i _ => n - (intOf i).toNat)
    case atStart => exact ⟨0, Nat.zero_le _, rfl, by simpa using HR1.out⟩
    case round =>
      obtain ⟨j, hj, rfl, hR⟩ := hrel
      have hz := Nat.le_trans hBw hR.be.size
      have hlj := HNL.out j
      by_cases hlt : j < n
      · obtain ⟨o, q, p, cs, rfl, hq, hp, hin, hcs⟩ := (parts_below HSL.out hR.be).at_ hlt
        obtain ⟨PA, pn, pc, rfl, hps, hpnc, hpcm, hpl⟩ := hin
        have hm := List.mem_of_getElem? hp
        obtain ⟨hp60, hp20, hpg⟩ := H4.out p hm
        have hpc5 := HCP.out p hm
        have hpln := hpl.len
        have HST := hide (show L ++ (⟨#[78]⟩ : ByteArray).data.toList ++ (t.name.take (j + 1)).flatMap (kyPart (kyT f)) = L ++ (⟨#[78]⟩ : ByteArray).data.toList ++ (t.name.take j).flatMap (kyPart (kyT f)) ++ kyPart (kyT f) p by rw [take_succ_get hp, List.flatMap_append]; simp)
        obtain ⟨L1, hL1⟩ : ∃ L1, L ++ (⟨#[78]⟩ : ByteArray).data.toList ++ (t.name.take j).flatMap (kyPart (kyT f)) = L1 := ⟨_, rfl⟩
        have hl1 : L1.length ≤ L.length + 702000 := by rw [← hL1, List.length_append, List.length_append]; show L.length + 1 + _ ≤ _; omega
        rw [hL1] at hR HST
        have c0 : wr.cell? ⟨o, q + j * 2, none⟩ = some (.string p.1) := by simpa using hcs 0 _ rfl
        have c1 : wr.cell? ⟨o, q + j * 2 + 1, none⟩ = some (.slice PA pn pc) := hcs 1 _ rfl
        have HPA := hide ((Below.refl wr.heap.size wr).alloc (Nat.le_refl _) (.cells #[.string p.1, .slice PA pn pc] 47))
        have HPX := hide (heap_alloc_new wr (.cells #[.string p.1, .slice PA pn pc] 47))
        have HR2 := hide (hR.below hBw (HPA.out.trans (below_drewN (Below.refl _ _) 1)))
        have HBA := hide ((HPA.out.mono hz).trans (below_drewN (Below.refl B _) 1))
        have HPL := hide hpl
        have hne2 : wr.heap.size ≠ bb := fun e => by have := bld_lt hR.bld; omega
        have e0 : (wr.alloc (.cells #[.string p.1, .slice PA pn pc] 47)).cell? ⟨wr.heap.size, 0, none⟩ = some (.string p.1) := block_cell HPX.out 0
        have e1 : (wr.alloc (.cells #[.string p.1, .slice PA pn pc] 47)).cell? ⟨wr.heap.size, 1, none⟩ = some (.slice PA pn pc) := block_cell HPX.out 1
        have hzr := hR.be.size
        have HPG := hide hpg
        clear hcs hm hL1 hlj hR hp hpl hpg
        go_wp2_with (fail)
        obtain ⟨wa, hwa⟩ : ∃ x, wr.alloc (.cells #[.string p.1, .slice PA pn pc] 47) = x := ⟨_, rfl⟩
        rw [hwa] at HPX HPA e0 e1 HR2 HBA ⊢
        have hza : wr.heap.size ≤ wa.heap.size := HPA.out.size
        clear hwa
        have HI := hide (itoa_len p.1 wa.drew hp60 (HTB.out.below HR2.out.be))
        obtain ⟨lz, hlz⟩ : ∃ x : ByteArray, ⟨(lenL p.1).toArray⟩ = x := ⟨_, rfl⟩
        have HLZ := hide (show lz.data.toList = lenL p.1 by rw [← hlz])
        have hlz2 : lz.size ≤ 2 := by rw [← hlz]; simpa [ByteArray.size] using lenL_len hp60
        rw [hlz] at HI
        have nb1 : ¬ 9223372036854775807 < lz.size + p.1.size := by omega
        clear hlz
        refine wp_region_chain (fun W => W.cell? ⟨wr.heap.size, 0, none⟩ = some (.string p.1)) 7 (by as_aux_lemma => kernel_rfl) (N := 8) (by as_aux_lemma => kernel_rfl) ?_; intro hsh
        have HS : wa.drew.cell? ⟨wr.heap.size, 0, none⟩ = some (.string p.1) := e0
        refine wpAnyC_take0 (i := 0) (k := 7) (v := ?_) (d := some 30) rfl (by rfl) (by as_aux_lemma => kernel_rfl) (by as_aux_lemma => kernel_rfl) (by as_aux_lemma => kernel_rfl) hsh (by decide) (by intro _ _ _ h; exact h) (by assumption) (Or.inl ⟨by rfl, ?hy⟩) ?_; (case hy => (intro W _; go_simp; (try with_reducible rfl))); clear hsh; intro hsh
        refine wpAnyC_take (i := 1) (k := 7) (f := 40) (v := ?_) (d := some 31) rfl (by rfl) (by as_aux_lemma => kernel_rfl) (by as_aux_lemma => kernel_rfl) (by as_aux_lemma => kernel_rfl) hsh (by decide) (by as_aux_lemma => kernel_rfl) (by intro _ _ _ h; exact h) (by assumption) (Or.inl ⟨by rfl, ?hy⟩) ?_; (case hy => (rintro W y0; go_simp; (try with_reducible rfl))); clear hsh; intro hsh
        refine wpAnyC_take0 (i := 2) (k := 7) (v := ?_) (d := some 32) rfl (by rfl) (by as_aux_lemma => kernel_rfl) (by as_aux_lemma => kernel_rfl) (by as_aux_lemma => kernel_rfl) hsh (by decide) (by intro _ _ _ h; exact h) (by assumption) (Or.inl ⟨by rfl, ?hy⟩) ?_; (case hy => (intro W _; go_simp; (try with_reducible rfl))); clear hsh; intro hsh
        refine wpAnyC_take0 (i := 4) (k := 7) (v := ?_) (d := some 34) rfl (by rfl) (by as_aux_lemma => kernel_rfl) (by as_aux_lemma => kernel_rfl) (by as_aux_lemma => kernel_rfl) hsh (by decide) (by intro _ _ _ h; exact h) (by assumption) (Or.inl ⟨by rfl, ?hy⟩) ?_; (case hy => (intro W _; go_simp; (try with_reducible rfl))); clear hsh; intro hsh
        refine wpAnyC_take (i := 5) (k := 7) (f := 40) (v := ?_) (d := some 35) rfl (by rfl) (by as_aux_lemma => kernel_rfl) (by as_aux_lemma => kernel_rfl) (by as_aux_lemma => kernel_rfl) hsh (by decide) (by as_aux_lemma => kernel_rfl) (by intro _ _ _ h; exact h) (by assumption) (Or.inl ⟨by rfl, ?hy⟩) ?_; (case hy => (rintro W y0; go_simp; (try with_reducible rfl))); clear hsh; intro hsh
        refine wpAnyC_ready (rs := [3]) (by as_aux_lemma => kernel_rfl) (by simp) ?_; refine AllC.cons (i := 3) rfl (by as_aux_lemma => kernel_rfl) hsh (fun K hK => ?_) AllC.nil
        go_simp
        go_at_call 42
        refine HI.out.mono ?_
        rintro e w2 ⟨rfl, hw2⟩
        have HPX2 := hide (block_below (show wa.drew.heap[wr.heap.size]? = _ from HPX.out) hw2)
        have HR3 := hide (HR2.out.below hBw hw2)
        have HBB := hide (HBA.out.trans (hw2.mono (Nat.le_trans hBw HR2.out.be.size)))
        have hz2 := hw2.size
        try go_simp
        refine hK _ _ (fun _ => block_cell HPX2.out 0) ?_
        clear hK K hsh HS hw2 HI
        intro hsh
        have HS : w2.cell? ⟨wr.heap.size, 0, none⟩ = some (.string p.1) := block_cell HPX2.out 0
        refine wpAnyC_take0 (i := 6) (k := 7) (v := ?_) (d := some 36) rfl (by rfl) (by as_aux_lemma => kernel_rfl) (by as_aux_lemma => kernel_rfl) (by as_aux_lemma => kernel_rfl) hsh (by decide) (by intro _ _ _ h; exact h) (by assumption) (Or.inl ⟨by rfl, ?hy⟩) ?_; (case hy => (intro W _; go_simp; (try with_reducible rfl))); clear hsh; intro hsh
        refine wpAnyC_ready (rs := [7]) (by as_aux_lemma => kernel_rfl) (by simp) ?_; refine AllC.cons (i := 7) rfl (by as_aux_lemma => kernel_rfl) hsh (fun K hK => ?_) AllC.nil
        go_simp
        go_at_call 17
        refine (write_bytes B bb L1 (lz ++ p.1) w2 HR3.out.bld (Nat.le_trans hBw HR3.out.be.size) (by rw [ByteArray.size_append]; omega)).mono ?_
        rintro e w3 ⟨rfl, hb3, hw3, hk3⟩
        rw [app_toL, HLZ.out] at hb3
        have HPX3 := hide (hk3 _ _ _ _ HPX2.out (by decide) hne2)
        have HR4 := hide (HR3.out.trans (KyR.mk hb3 hw3 hk3))
        have HK4 := hide (HKY.out.kept HR4.out.kept)
        have HBC := hide (HBB.out.trans hw3)
        try go_simp
        refine hK _ _ (fun h => absurd (h.symm.trans (by kernel_rfl)) (show ¬ (false = true) by decide)) ?_
        clear hK K hsh HS hb3 hw3 hk3
        intro hsh
        refine wpAnyC_done (by as_aux_lemma => kernel_rfl) ?_; clear hsh
        have y1 : w3.cell? ⟨wr.heap.size, 1, none⟩ = some (.slice PA pn pc) := block_cell HPX3.out 1
        by_cases hp0 : pn = 0
        · subst hp0
          have HKP := hide (show L1 ++ kyPart (kyT f) p = L1 ++ (lenL p.1 ++ p.1.data.toList) by rw [kyPart, if_pos hpln]; simp)
          go_wp2_with (fail)
          go_roundw
          case rel => exact ⟨j + 1, by omega, by go_num, by rw [HST.out, HKP.out]; exact HR4.out⟩
          case measure => simp [intOf]; omega
        · have hpp : 0 < pn := by omega
          have hpp2 : (0 : Int) < (pn : Int) := by omega
          have f0 : w3.cell? ⟨lb, 0, none⟩ = some (.func (.func 75) #[] #[.pointer (some ⟨bb, 0, none⟩), .pointer (some ⟨ob, 0, none⟩)]) := block_cell HK4.out.1 0
          have HKP := hide (show L1 ++ kyPart (kyT f) p = L1 ++ (lenL p.1 ++ p.1.data.toList) ++ (⟨#[73]⟩ : ByteArray).data.toList ++ p.2.flatMap (kyT f) ++ [69] by rw [kyPart, if_neg (by omega)]; simp)
          have hll := lenL_len hp60
          have htl : p.1.data.toList.length ≤ 60 := by rw [Array.length_toList]; exact hp60
          have HC := hide (HT k PA pn pc p.2 ⟨#[73]⟩ B bb lb ob (L1 ++ (lenL p.1 ++ p.1.data.toList)) w3 hpnc hpcm (by omega) (by decide) (tys_below HPL.out HBC.out) HPG.out hpc5 HR4.out.bld HK4.out (HTB.out.below HR4.out.be) (Nat.le_trans hBw HR4.out.be.size) (by simp only [List.length_append]; omega))
          clear HLZ
          go_wp2_with (go_at_call 75; refine HC.out.mono ?_; rintro e w4 ⟨rfl, hr4⟩; have HR5 := hide (HR4.out.trans hr4); clear hr4)
          go_roundw
          case rel => exact ⟨j + 1, by omega, by go_num, by rw [HST.out, HKP.out]; exact HR5.out⟩
          case measure => simp [intOf]; omega
      · obtain rfl : j = n := by omega
        have htk : t.name.take j = t.name := take_len _ (by rw [HLN.out]; exact Nat.le_refl _)
        rw [htk] at hR hlj
        have HR := hide hR
        clear hR htk
        go_wp2_with (go_at_call 17; refine (write_bytes B bb _ ⟨#[69]⟩ wr HR.out.bld hz (by simp only [List.length_append, List.length_singleton]; omega)).mono ?_; rintro e w2 ⟨rfl, hb1, hw1, hk1⟩; have HR2 := hide (HR.out.trans (KyR.mk hb1 hw1 hk1)); clear hb1 hw1 hk1)
        go_end0
        exact ⟨rfl, HR2.out⟩
  · obtain ⟨hno, hp1, hp2⟩ := h2 (by decide)
    have HKT := hide (show L ++ kyT (f + 1) t = L ++ (⟨#[70]⟩ : ByteArray).data.toList ++ t.of.flatMap (kyT f) ++ [69] by rw [kyT, if_neg (by rw [HKD.out]; decide), if_pos HKD.out]; simp)
    rw [HKT.out]
    have x0 : (w.alloc (.cells #[.int .i64 4, .slice A n c, .slice A2 n2 cp2] 75)).cell? ⟨w.heap.size, 0, none⟩ = some (.int .i64 4) := block_cell HX.out 0
    have x2 : (w.alloc (.cells #[.int .i64 4, .slice A n c, .slice A2 n2 cp2] 75)).cell? ⟨w.heap.size, 2, none⟩ = some (.slice A2 n2 cp2) := block_cell HX.out 2
    have l0 : (w.alloc (.cells #[.int .i64 4, .slice A n c, .slice A2 n2 cp2] 75)).cell? ⟨lb, 0, none⟩ = some (.func (.func 75) #[] #[.pointer (some ⟨bb, 0, none⟩), .pointer (some ⟨ob, 0, none⟩)]) := block_cell HK0.out.1 0
    have HC := hide (HT k A2 n2 cp2 t.of ⟨#[70]⟩ B bb lb ob L _ hn2 hm2 (by rw [← HLO.out]; exact hp2) (by decide) (tys_below HSO.out HR0.out.be) h5 (by omega) HR0.out.bld HK0.out (HTB.out.below HR0.out.be) (by omega) (by omega))
    clear h1 h2 h3 h4 h5 hno hc5
    go_enter Tryd.func76, Tryd.ntmps76
    go_wp2_with (go_at_call 75; refine HC.out.mono ?_; rintro e w1 ⟨rfl, hr1⟩; have HR1 := hide (HR0.out.trans hr1); clear hr1)
    go_end0
    exact ⟨rfl, HR1.out⟩
  · obtain ⟨hno, hp1, hp2⟩ := h2 (by decide)
    obtain ⟨x, hx⟩ := one_of (h3 (by decide))
    have HKT := hide (show L ++ kyT (f + 1) t = L ++ (⟨#[82]⟩ : ByteArray).data.toList ++ kyT f x by rw [kyT, if_neg (by rw [HKD.out]; decide), if_neg (by rw [HKD.out]; decide), hx]; simp [headT, HKD.out])
    rw [HKT.out]
    have x0 : (w.alloc (.cells #[.int .i64 2, .slice A n c, .slice A2 n2 cp2] 75)).cell? ⟨w.heap.size, 0, none⟩ = some (.int .i64 2) := block_cell HX.out 0
    have hgx : Good f x := h5 x (by rw [hx]; simp)
    have hcx : cnt f x ≤ 500 := by rw [hx] at hc5; have := cnt_mem (f := f) (l := [x]) (t := x) (by simp); omega
    obtain rfl : n2 = 1 := by rw [← HLO.out, hx]; rfl
    have HCW := hide (write_bytes B bb L ⟨#[82]⟩ _ HR0.out.bld (by omega) (by have : (⟨#[82]⟩ : ByteArray).size = 1 := rfl; omega))
    have i0 : ∀ W, (Instr.index 127 (.agg #[.string ⟨#[]⟩, .string ⟨#[]⟩, .string ⟨#[82]⟩, .string ⟨#[76]⟩]) (.int .i64 2)).run Tryd.prog W = .ok (.string ⟨#[82]⟩) W := fun _ => by kernel_rfl
    clear h1 h2 h3 h4 h5 hno hc5
    go_enter Tryd.func76, Tryd.ntmps76
    go_wp2_with (go_at_call 17; refine HCW.out.mono ?_; rintro e w1 ⟨rfl, hb1, hw1, hk1⟩; have HR1 := hide (HR0.out.trans (KyR.mk hb1 hw1 hk1)); have HX1 := hide (hk1 _ _ _ _ HX.out (by decide) hne.symm); have HK1 := hide (HK0.out.kept hk1); have hz1 := hw1.size; clear hb1 hw1 hk1)
    obtain ⟨o, q, x', cs, rfl, hq, ht, hin, hcs⟩ := (tys_below HSO.out HR1.out.be).at_ (show 0 < 1 by omega)
    rw [hx] at ht
    obtain rfl : x = x' := by simpa using ht
    have hin2 := hin
    cases k with
    | zero => exact hin.elim
    | succ k =>
    obtain ⟨A3, n3, cap3, A4, n4, cap4, rfl, _⟩ := hin
    have c0 : w1.cell? ⟨o, q, none⟩ = some (.int .i64 x.kind) := by simpa using hcs 0 _ rfl
    have c1 : w1.cell? ⟨o, q + 1, none⟩ = some (.slice A3 n3 cap3) := by simpa using hcs 1 _ rfl
    have c2 : w1.cell? ⟨o, q + 2, none⟩ = some (.slice A4 n4 cap4) := by simpa using hcs 2 _ rfl
    have d2 : w1.cell? ⟨w.heap.size, 2, none⟩ = some (.slice (some ⟨o, q, none⟩) 1 cp2) := block_cell HX1.out 2
    have f0 : w1.cell? ⟨ob, 0, none⟩ = some (.func (.func 76) #[] #[.pointer (some ⟨bb, 0, none⟩), .pointer (some ⟨lb, 0, none⟩), .pointer (some ⟨ob, 0, none⟩)]) := block_cell HK1.out.2.1 0
    have HR2 := hide (HR1.out.below hBw (below_drewN (Below.refl w1.heap.size w1) 1))
    have HC := hide (H (k + 1) x _ B bb lb ob _ w1.drew (hin2.below (below_drewN (Below.refl B w1) 1)) hgx hcx (show Bld B bb _ w1.drew from bld_below HR1.out.bld (below_drewN (Below.refl w1.heap.size w1) 1)) HK1.out (HTB.out.below (HR1.out.be.trans (below_drewN (Below.refl B w1) 1))) (show B ≤ w1.heap.size by omega) (by rw [List.length_append]; show L.length + 1 + 4000000 * f ≤ 100000000; omega))
    clear hcs ht hin2 hgx hcx
    refine wp_region_chain (fun W => W.cell? ⟨ob, 0, none⟩ = some (.func (.func 76) #[] #[.pointer (some ⟨bb, 0, none⟩), .pointer (some ⟨lb, 0, none⟩), .pointer (some ⟨ob, 0, none⟩)]) ∧ W.cell? ⟨w.heap.size, 2, none⟩ = some (.slice (some ⟨o, q, none⟩) 1 cp2) ∧ W.cell? ⟨o, q, none⟩ = some (.int .i64 x.kind) ∧ W.cell? ⟨o, q + 1, none⟩ = some (.slice A3 n3 cap3) ∧ W.cell? ⟨o, q + 2, none⟩ = some (.slice A4 n4 cap4)) 5 (by as_aux_lemma => kernel_rfl) (N := 6) (by as_aux_lemma => kernel_rfl) ?_; intro hsh
    have HS : w1.drew.cell? ⟨ob, 0, none⟩ = some (.func (.func 76) #[] #[.pointer (some ⟨bb, 0, none⟩), .pointer (some ⟨lb, 0, none⟩), .pointer (some ⟨ob, 0, none⟩)]) ∧ w1.drew.cell? ⟨w.heap.size, 2, none⟩ = some (.slice (some ⟨o, q, none⟩) 1 cp2) ∧ w1.drew.cell? ⟨o, q, none⟩ = some (.int .i64 x.kind) ∧ w1.drew.cell? ⟨o, q + 1, none⟩ = some (.slice A3 n3 cap3) ∧ w1.drew.cell? ⟨o, q + 2, none⟩ = some (.slice A4 n4 cap4) := ⟨f0, d2, c0, c1, c2⟩
    refine wpAnyC_take (i := 0) (k := 5) (f := 40) (v := ?_) (d := some 14) rfl (by rfl) (by as_aux_lemma => kernel_rfl) (by as_aux_lemma => kernel_rfl) (by as_aux_lemma => kernel_rfl) hsh (by decide) (by as_aux_lemma => kernel_rfl) (by intro _ _ _ h; exact h) (by assumption) (Or.inl ⟨by rfl, ?hy⟩) ?_; (case hy => (rintro W ⟨y0, y1, y2, y3, y4⟩; go_simp; (try with_reducible rfl))); clear hsh; intro hsh
    refine wpAnyC_take0 (i := 1) (k := 5) (v := ?_) (d := some 15) rfl (by rfl) (by as_aux_lemma => kernel_rfl) (by as_aux_lemma => kernel_rfl) (by as_aux_lemma => kernel_rfl) hsh (by decide) (by intro _ _ _ h; exact h) (by assumption) (Or.inl ⟨by rfl, ?hy⟩) ?_; (case hy => (intro W _; go_simp; (try with_reducible rfl))); clear hsh; intro hsh
    refine wpAnyC_take (i := 2) (k := 5) (f := 40) (v := ?_) (d := some 16) rfl (by rfl) (by as_aux_lemma => kernel_rfl) (by as_aux_lemma => kernel_rfl) (by as_aux_lemma => kernel_rfl) hsh (by decide) (by as_aux_lemma => kernel_rfl) (by intro _ _ _ h; exact h) (by assumption) (Or.inl ⟨by rfl, ?hy⟩) ?_; (case hy => (rintro W ⟨y0, y1, y2, y3, y4⟩; go_simp; (try with_reducible rfl))); clear hsh; intro hsh
    refine wpAnyC_take (i := 3) (k := 5) (f := 40) (v := ?_) (d := some 17) rfl (by rfl) (by as_aux_lemma => kernel_rfl) (by as_aux_lemma => kernel_rfl) (by as_aux_lemma => kernel_rfl) hsh (by decide) (by as_aux_lemma => kernel_rfl) (by intro _ _ _ h; exact h) (by assumption) (Or.inl ⟨by rfl, ?hy⟩) ?_; (case hy => (rintro W ⟨y0, y1, y2, y3, y4⟩; go_simp; (try with_reducible rfl))); clear hsh; intro hsh
    refine wpAnyC_take (i := 4) (k := 5) (f := 40) (v := ?_) (d := some 18) rfl (by rfl) (by as_aux_lemma => kernel_rfl) (by as_aux_lemma => kernel_rfl) (by as_aux_lemma => kernel_rfl) hsh (by decide) (by as_aux_lemma => kernel_rfl) (by intro _ _ _ h; exact h) (by assumption) (Or.inl ⟨by rfl, ?hy⟩) ?_; (case hy => (rintro W ⟨y0, y1, y2, y3, y4⟩; go_simp; (try with_reducible rfl))); clear hsh; intro hsh
    refine wpAnyC_ready (rs := [5]) (by as_aux_lemma => kernel_rfl) (by simp) ?_; refine AllC.cons (i := 5) rfl (by as_aux_lemma => kernel_rfl) hsh (fun K hK => ?_) AllC.nil
    go_simp
    go_at_call 76
    refine HC.out.mono ?_
    rintro e w2 ⟨rfl, hr2⟩
    have HR3 := hide (HR2.out.trans hr2)
    clear hr2
    try go_simp
    refine hK _ _ (fun h => absurd (h.symm.trans (by kernel_rfl)) (show ¬ (false = true) by decide)) ?_
    clear hK K hsh HS
    intro hsh
    refine wpAnyC_done (by as_aux_lemma => kernel_rfl) ?_; clear hsh
    go_wp2_with (fail)
    go_end0
    exact ⟨rfl, HR3.out⟩
  · obtain ⟨hno, hp1, hp2⟩ := h2 (by decide)
    obtain ⟨x, hx⟩ := one_of (h3 (by decide))
    have HKT := hide (show L ++ kyT (f + 1) t = L ++ (⟨#[76]⟩ : ByteArray).data.toList ++ kyT f x by rw [kyT, if_neg (by rw [HKD.out]; decide), if_neg (by rw [HKD.out]; decide), hx]; simp [headT, HKD.out])
    rw [HKT.out]
    have x0 : (w.alloc (.cells #[.int .i64 3, .slice A n c, .slice A2 n2 cp2] 75)).cell? ⟨w.heap.size, 0, none⟩ = some (.int .i64 3) := block_cell HX.out 0
    have hgx : Good f x := h5 x (by rw [hx]; simp)
    have hcx : cnt f x ≤ 500 := by rw [hx] at hc5; have := cnt_mem (f := f) (l := [x]) (t := x) (by simp); omega
    obtain rfl : n2 = 1 := by rw [← HLO.out, hx]; rfl
    have HCW := hide (write_bytes B bb L ⟨#[76]⟩ _ HR0.out.bld (by omega) (by have : (⟨#[76]⟩ : ByteArray).size = 1 := rfl; omega))
    have i0 : ∀ W, (Instr.index 127 (.agg #[.string ⟨#[]⟩, .string ⟨#[]⟩, .string ⟨#[82]⟩, .string ⟨#[76]⟩]) (.int .i64 3)).run Tryd.prog W = .ok (.string ⟨#[76]⟩) W := fun _ => by kernel_rfl
    clear h1 h2 h3 h4 h5 hno hc5
    go_enter Tryd.func76, Tryd.ntmps76
    go_wp2_with (go_at_call 17; refine HCW.out.mono ?_; rintro e w1 ⟨rfl, hb1, hw1, hk1⟩; have HR1 := hide (HR0.out.trans (KyR.mk hb1 hw1 hk1)); have HX1 := hide (hk1 _ _ _ _ HX.out (by decide) hne.symm); have HK1 := hide (HK0.out.kept hk1); have hz1 := hw1.size; clear hb1 hw1 hk1)
    obtain ⟨o, q, x', cs, rfl, hq, ht, hin, hcs⟩ := (tys_below HSO.out HR1.out.be).at_ (show 0 < 1 by omega)
    rw [hx] at ht
    obtain rfl : x = x' := by simpa using ht
    have hin2 := hin
    cases k with
    | zero => exact hin.elim
    | succ k =>
    obtain ⟨A3, n3, cap3, A4, n4, cap4, rfl, _⟩ := hin
    have c0 : w1.cell? ⟨o, q, none⟩ = some (.int .i64 x.kind) := by simpa using hcs 0 _ rfl
    have c1 : w1.cell? ⟨o, q + 1, none⟩ = some (.slice A3 n3 cap3) := by simpa using hcs 1 _ rfl
    have c2 : w1.cell? ⟨o, q + 2, none⟩ = some (.slice A4 n4 cap4) := by simpa using hcs 2 _ rfl
    have d2 : w1.cell? ⟨w.heap.size, 2, none⟩ = some (.slice (some ⟨o, q, none⟩) 1 cp2) := block_cell HX1.out 2
    have f0 : w1.cell? ⟨ob, 0, none⟩ = some (.func (.func 76) #[] #[.pointer (some ⟨bb, 0, none⟩), .pointer (some ⟨lb, 0, none⟩), .pointer (some ⟨ob, 0, none⟩)]) := block_cell HK1.out.2.1 0
    have HR2 := hide (HR1.out.below hBw (below_drewN (Below.refl w1.heap.size w1) 1))
    have HC := hide (H (k + 1) x _ B bb lb ob _ w1.drew (hin2.below (below_drewN (Below.refl B w1) 1)) hgx hcx (show Bld B bb _ w1.drew from bld_below HR1.out.bld (below_drewN (Below.refl w1.heap.size w1) 1)) HK1.out (HTB.out.below (HR1.out.be.trans (below_drewN (Below.refl B w1) 1))) (show B ≤ w1.heap.size by omega) (by rw [List.length_append]; show L.length + 1 + 4000000 * f ≤ 100000000; omega))
    clear hcs ht hin2 hgx hcx
    refine wp_region_chain (fun W => W.cell? ⟨ob, 0, none⟩ = some (.func (.func 76) #[] #[.pointer (some ⟨bb, 0, none⟩), .pointer (some ⟨lb, 0, none⟩), .pointer (some ⟨ob, 0, none⟩)]) ∧ W.cell? ⟨w.heap.size, 2, none⟩ = some (.slice (some ⟨o, q, none⟩) 1 cp2) ∧ W.cell? ⟨o, q, none⟩ = some (.int .i64 x.kind) ∧ W.cell? ⟨o, q + 1, none⟩ = some (.slice A3 n3 cap3) ∧ W.cell? ⟨o, q + 2, none⟩ = some (.slice A4 n4 cap4)) 5 (by as_aux_lemma => kernel_rfl) (N := 6) (by as_aux_lemma => kernel_rfl) ?_; intro hsh
    have HS : w1.drew.cell? ⟨ob, 0, none⟩ = some (.func (.func 76) #[] #[.pointer (some ⟨bb, 0, none⟩), .pointer (some ⟨lb, 0, none⟩), .pointer (some ⟨ob, 0, none⟩)]) ∧ w1.drew.cell? ⟨w.heap.size, 2, none⟩ = some (.slice (some ⟨o, q, none⟩) 1 cp2) ∧ w1.drew.cell? ⟨o, q, none⟩ = some (.int .i64 x.kind) ∧ w1.drew.cell? ⟨o, q + 1, none⟩ = some (.slice A3 n3 cap3) ∧ w1.drew.cell? ⟨o, q + 2, none⟩ = some (.slice A4 n4 cap4) := ⟨f0, d2, c0, c1, c2⟩
    refine wpAnyC_take (i := 0) (k := 5) (f := 40) (v := ?_) (d := some 14) rfl (by rfl) (by as_aux_lemma => kernel_rfl) (by as_aux_lemma => kernel_rfl) (by as_aux_lemma => kernel_rfl) hsh (by decide) (by as_aux_lemma => kernel_rfl) (by intro _ _ _ h; exact h) (by assumption) (Or.inl ⟨by rfl, ?hy⟩) ?_; (case hy => (rintro W ⟨y0, y1, y2, y3, y4⟩; go_simp; (try with_reducible rfl))); clear hsh; intro hsh
    refine wpAnyC_take0 (i := 1) (k := 5) (v := ?_) (d := some 15) rfl (by rfl) (by as_aux_lemma => kernel_rfl) (by as_aux_lemma => kernel_rfl) (by as_aux_lemma => kernel_rfl) hsh (by decide) (by intro _ _ _ h; exact h) (by assumption) (Or.inl ⟨by rfl, ?hy⟩) ?_; (case hy => (intro W _; go_simp; (try with_reducible rfl))); clear hsh; intro hsh
    refine wpAnyC_take (i := 2) (k := 5) (f := 40) (v := ?_) (d := some 16) rfl (by rfl) (by as_aux_lemma => kernel_rfl) (by as_aux_lemma => kernel_rfl) (by as_aux_lemma => kernel_rfl) hsh (by decide) (by as_aux_lemma => kernel_rfl) (by intro _ _ _ h; exact h) (by assumption) (Or.inl ⟨by rfl, ?hy⟩) ?_; (case hy => (rintro W ⟨y0, y1, y2, y3, y4⟩; go_simp; (try with_reducible rfl))); clear hsh; intro hsh
    refine wpAnyC_take (i := 3) (k := 5) (f := 40) (v := ?_) (d := some 17) rfl (by rfl) (by as_aux_lemma => kernel_rfl) (by as_aux_lemma => kernel_rfl) (by as_aux_lemma => kernel_rfl) hsh (by decide) (by as_aux_lemma => kernel_rfl) (by intro _ _ _ h; exact h) (by assumption) (Or.inl ⟨by rfl, ?hy⟩) ?_; (case hy => (rintro W ⟨y0, y1, y2, y3, y4⟩; go_simp; (try with_reducible rfl))); clear hsh; intro hsh
    refine wpAnyC_take (i := 4) (k := 5) (f := 40) (v := ?_) (d := some 18) rfl (by rfl) (by as_aux_lemma => kernel_rfl) (by as_aux_lemma => kernel_rfl) (by as_aux_lemma => kernel_rfl) hsh (by decide) (by as_aux_lemma => kernel_rfl) (by intro _ _ _ h; exact h) (by assumption) (Or.inl ⟨by rfl, ?hy⟩) ?_; (case hy => (rintro W ⟨y0, y1, y2, y3, y4⟩; go_simp; (try with_reducible rfl))); clear hsh; intro hsh
    refine wpAnyC_ready (rs := [5]) (by as_aux_lemma => kernel_rfl) (by simp) ?_; refine AllC.cons (i := 5) rfl (by as_aux_lemma => kernel_rfl) hsh (fun K hK => ?_) AllC.nil
    go_simp
    go_at_call 76
    refine HC.out.mono ?_
    rintro e w2 ⟨rfl, hr2⟩
    have HR3 := hide (HR2.out.trans hr2)
    clear hr2
    try go_simp
    refine hK _ _ (fun h => absurd (h.symm.trans (by kernel_rfl)) (show ¬ (false = true) by decide)) ?_
    clear hK K hsh HS
    intro hsh
    refine wpAnyC_done (by as_aux_lemma => kernel_rfl) ?_; clear hsh
    go_wp2_with (fail)
    go_end0
    exact ⟨rfl, HR3.out⟩
theorem kAll : ∀ f, kTyOk f
  | 0 => kTy_zero
  | f + 1 => kTy_succ (kTys_of (kAll f)) (kAll f)
set_option maxRecDepth 100000 in
set_option maxHeartbeats 8000000 in
theorem key_any (k : Nat) (t : Ty) (cs : List Value) (w : World) (hin : TyIn w w.heap.size k t cs) (hg : Good 12 t) (hc5 : cnt 12 t ≤ 500) (htb : Tab10 w.heap.size w) :
    Calls Tryd.prog 68 #[.agg cs.toArray] w fun e w' => e = .returned (.string ⟨(ky t).toArray⟩) ∧ Below w.heap.size w w' := by
  unfold ky
  cases k with
  | zero => exact hin.elim
  | succ k =>
  have HIN := hide hin
  obtain ⟨A, n, c, A2, n2, cp2, rfl, _⟩ := hin
  have h0 := heap_alloc_new w (.cells #[.int .i64 t.kind, .slice A n c, .slice A2 n2 cp2] 75)
  obtain ⟨B, hB⟩ : ∃ q, w.heap.size = q := ⟨_, rfl⟩
  obtain ⟨W0, hW0⟩ : ∃ x, (((w.alloc (.cells #[.int .i64 t.kind, .slice A n c, .slice A2 n2 cp2] 75)).alloc (.cells #[.pointer none, .slice none 0 0] 53)).alloc (.cells #[.func (.func 76) #[] #[.pointer (some ⟨B + 1, 0, none⟩), .pointer (some ⟨B + 1 + 1 + 1, 0, none⟩), .pointer (some ⟨B + 1 + 1, 0, none⟩)]] 93)).alloc (.cells #[.func (.func 75) #[] #[.pointer (some ⟨B + 1, 0, none⟩), .pointer (some ⟨B + 1 + 1, 0, none⟩)]] 129) = x := ⟨_, rfl⟩
  have hb1 : Below B w W0 := by rw [← hW0]; exact ((((Below.refl _ _).alloc (by omega) _).alloc (by simp; omega) _).alloc (by simp; omega) _).alloc (by simp; omega) _
  have hz : W0.heap.size = B + 1 + 1 + 1 + 1 := by rw [← hW0]; simp [hB]
  have g3 : W0.heap[B + 1 + 1 + 1]? = some (.cells #[.func (.func 75) #[] #[.pointer (some ⟨B + 1, 0, none⟩), .pointer (some ⟨B + 1 + 1, 0, none⟩)]] 129) := by
    rw [← hW0]
    have h := heap_alloc_new (((w.alloc (.cells #[.int .i64 t.kind, .slice A n c, .slice A2 n2 cp2] 75)).alloc (.cells #[.pointer none, .slice none 0 0] 53)).alloc (.cells #[.func (.func 76) #[] #[.pointer (some ⟨B + 1, 0, none⟩), .pointer (some ⟨B + 1 + 1 + 1, 0, none⟩), .pointer (some ⟨B + 1 + 1, 0, none⟩)]] 93)) (.cells #[.func (.func 75) #[] #[.pointer (some ⟨B + 1, 0, none⟩), .pointer (some ⟨B + 1 + 1, 0, none⟩)]] 129)
    simpa [hB] using h
  have g2 : W0.heap[B + 1 + 1]? = some (.cells #[.func (.func 76) #[] #[.pointer (some ⟨B + 1, 0, none⟩), .pointer (some ⟨B + 1 + 1 + 1, 0, none⟩), .pointer (some ⟨B + 1 + 1, 0, none⟩)]] 93) := by
    rw [← hW0]
    have h := heap_alloc_new ((w.alloc (.cells #[.int .i64 t.kind, .slice A n c, .slice A2 n2 cp2] 75)).alloc (.cells #[.pointer none, .slice none 0 0] 53)) (.cells #[.func (.func 76) #[] #[.pointer (some ⟨B + 1, 0, none⟩), .pointer (some ⟨B + 1 + 1 + 1, 0, none⟩), .pointer (some ⟨B + 1 + 1, 0, none⟩)]] 93)
    have h := block_below h ((Below.refl _ _).alloc (Nat.le_refl _) (.cells #[.func (.func 75) #[] #[.pointer (some ⟨B + 1, 0, none⟩), .pointer (some ⟨B + 1 + 1, 0, none⟩)]] 129))
    simpa [hB] using h
  have g1 : W0.heap[B + 1]? = some (.cells #[.pointer none, .slice none 0 0] 53) := by
    rw [← hW0]
    have h := heap_alloc_new (w.alloc (.cells #[.int .i64 t.kind, .slice A n c, .slice A2 n2 cp2] 75)) (.cells #[.pointer none, .slice none 0 0] 53)
    have h := block_below h (((Below.refl _ _).alloc (Nat.le_refl _) (.cells #[.func (.func 76) #[] #[.pointer (some ⟨B + 1, 0, none⟩), .pointer (some ⟨B + 1 + 1 + 1, 0, none⟩), .pointer (some ⟨B + 1 + 1, 0, none⟩)]] 93)).alloc (by simp) (.cells #[.func (.func 75) #[] #[.pointer (some ⟨B + 1, 0, none⟩), .pointer (some ⟨B + 1 + 1, 0, none⟩)]] 129))
    simpa [hB] using h
  rw [hB] at HIN htb
  clear h0
  have hky : KyB (B + 1) (B + 1 + 1 + 1) (B + 1 + 1) W0 := ⟨g3, g2, by omega, by omega⟩
  have hbld : Bld B (B + 1) (Lib.byteCells []) W0 := .inl ⟨by omega, .slice none 0 0, g1, World.ownsRow_nil _ _ _ _, by simp [Value.ownBlock]⟩
  have HBW := hide hb1
  have HW0 := hide hW0
  have HC := hide (kAll 12 (k + 1) t _ B (B + 1) (B + 1 + 1 + 1) (B + 1 + 1) [] W0 (HIN.out.below hb1) hg hc5 hbld hky (htb.below hb1) (by omega) (by simp))
  have hBz : B ≤ W0.heap.size := by omega
  clear g3 g2 g1 hb1 hW0 htb hky hbld
  go_enter Tryd.func68, Tryd.ntmps68
  go_wp2_with (fail)
  rw [HW0.out]
  refine HC.out.mono ?_
  rintro e w2 ⟨rfl, hr2⟩
  have HS := hide (Tryd.Builder_String_any B (B + 1) (kyT 12 t) w2 (by simpa using hr2.bld) (Nat.le_trans hBz hr2.be.size))
  have HB2 := hide (HBW.out.trans hr2.be)
  clear hr2
  go_wp2_with (go_at_call 21; refine HS.out.mono ?_; rintro e w3 ⟨rfl, hw3⟩)
  go_ret
  exact ⟨rfl, by rw [hB]; exact HB2.out.trans hw3⟩
end Go.Proofs.YtocpmbpckbjepaaDoor
