/- Walk of name of the reference's reader of mangled names (printed by gen_rn.py). -/
import Derived.Test.YtecancnojdifaaaDoorNmDrB
namespace Go.Proofs.YtecancnojdifaaaDoor
open Go.RowKit
set_option linter.unusedVariables false
set_option linter.unusedSimpArgs false
theorem info_ptR : (Tryd.prog.info? 76).map (fun i => (i.zero, i.size, i.bytes)) = some (some (.agg #[.string ⟨#[]⟩, .slice none 0 0]), 2, 40) := by kernel_rfl
theorem cells_new3R (w : World) (a : Addr) (u : Value) (cs : List Value) (t : TypeId) : ∀ j v, cs[j]? = some v → ((w.setCell a u).alloc (.cells cs.toArray t)).cell? ((⟨w.heap.size, 0, none⟩ : Addr).add j) = some v := by
  have := cells_new (w.setCell a u) cs t
  simpa using this
theorem stay_ownR {c mb : Nat} {F : Nat → Prop} {w1 : World} {j k : Nat} {x : Value} (h : rOut c mb w1 F j) : StayS F w1 (w1.setCell ⟨j, k, none⟩ x) := ⟨by simp, fun b o hf e => block_set_other e _ _ (fun (e2 : b = j) => h.2.2.2.1 (e2 ▸ hf))⟩
theorem below_adR (w : World) (o : Obj) : Below w.heap.size w (w.alloc o).drew := below_drewN ((Below.refl w.heap.size w).alloc (Nat.le_refl _) o) 1
theorem letter_ok0 (c : UInt8) (w : World) : Calls Tryd.prog 69 #[.int .u8 c.toNat, .bool true] w fun e w' => e = .returned (.bool (okId 0 c)) ∧ w' = w := by
  rw [show okId 0 c = lettB c by simp [okId]]; exact letter_first c w
theorem letter_okS (c : UInt8) {k : Nat} (hk : 0 < k) (w : World) : Calls Tryd.prog 69 #[.int .u8 c.toNat, .bool false] w fun e w' => e = .returned (.bool (okId k c)) ∧ w' = w := by
  rw [show okId k c = (lettB c || digB c) by simp [okId, hk]]; exact letter_next c w
def rNamOk (s : ByteArray) (f : Nat) : Prop := ∀ (B c mb : Nat) (D : List Nd) (F : Nat → Prop) (i : Nat) (d : Int) (w : World), B ≤ w.heap.size → s.size ≤ 8000 → i ≤ s.size → D.length ≤ i → d = 12 - (f : Int) → rS B c mb s i (-1) D F w →
  Calls Tryd.prog 32 #[.pointer (some ⟨c, 0, none⟩), .int .i64 d] w fun e w' => RP (dName s (dOne s f) D i)
    (fun e0 => ∃ (A : Option Addr) (n q : Nat) (kb : ByteArray), e = .returned (.tuple #[.slice A n q, .string kb]) ∧ ∃ (j : Int) (D' : List Nd) (F' : Nat → Prop), rR B c mb s j e0 D' F F' w w')
    (fun j x => ∃ (F' : Nat → Prop) (A : Option Addr) (n q : Nat) (kb : ByteArray), e = .returned (.tuple #[.slice A n q, .string kb]) ∧ kb.data.toList = rPartsK x.2.1 ∧ kb.size ≤ 5 * s.size ∧ n ≤ q ∧ q ≤ maxLen ∧ SlS w' F' 2 (PartU w' F') A n x.1 ∧ rR B c mb s j (-1) x.2.2 F F' w w')
set_option maxRecDepth 100000 in
set_option maxHeartbeats 16000000 in
theorem rNam_of {s : ByteArray} {f : Nat} (HT : rTysOk s f) (hf : f ≤ 12) : rNamOk s f := by
  intro B c mb D F i d w hBw hs hi hDi hd h
  obtain ⟨i0, hi0, iz0, iz1, iz2⟩ := info_parts info_ptR
  have HP := hide (rR.refl h)
  have HTYS := hide HT
  have HDD := hide hd
  clear HT hd
  by_cases hN : s.data.toList[i]? = some 78
  · have HTN := hide (rTake_ok B c mb s D F w hBw i 78 hs hN h)
    have hin := get_lt hN
    clear h
    obtain ⟨R, hR⟩ : ∃ R, dName s (dOne s f) D i = R := ⟨_, rfl⟩
    have HRR := hide (show dParts s (dOne s f) (s.size + 1) [] [] D (i + 1) = R by rw [← hR, dName, if_pos hN])
    rw [hR]
    clear hR hN
    go_enter Tryd.func32, Tryd.ntmps32
    go_wp2_with (first | (go_at_call 31; refine HTN.out.mono ?_; rintro e w0 ⟨rfl, hr⟩; have HR0 := hide hr; clear hr))
    go_loopw [6, 7] (fun vrow vk wr => (∃ (n g x : Nat) (acc : List Part) (sh : List (ByteArray × List Nat)) (D1 : List Nd) (F1 : Nat → Prop) (kb : ByteArray), vk = .string kb ∧ kb.data.toList = rPartsK sh ∧ kb.size + 5 * i ≤ 5 * x ∧ rJ B c mb s 76 2 PartU F w (x : Nat) (-1) D1 F1 wr vrow n acc ∧ x ≤ s.size ∧ n ≤ x ∧ s.size < x + g ∧ D1.length ≤ x ∧ dParts s (dOne s f) g acc sh D1 x = R) ∨
      (∃ (A : Option Addr) (n q e : Nat) (x : Int) (D1 : List Nd) (F1 : Nat → Prop) (kb : ByteArray), vrow = .slice A n q ∧ vk = .string kb ∧ R = .bad e ∧ rR B c mb s x e D1 F F1 w wr)) (fun _ _ wr => msD c s wr)
    case atStart => exact .inl ⟨0, s.size + 1, i + 1, [], [], D, F, ⟨#[]⟩, rfl, rfl, by show 0 + 5 * i ≤ 5 * (i + 1); omega, ⟨HR0.out, rLoc.nil _ _ _ _ _ _ _ _⟩, hin, by omega, by omega, by omega, HRR.out⟩
    case round =>
      rcases hrel with ⟨n, g, x, acc, sh, D1, F1, kb, rfl, hkb, hkz, hJ, hx, hnx, hg, hDx, hR⟩ | ⟨A, n, q, e, x, D1, F1, kb, rfl, rfl, hR, hp⟩
      · obtain ⟨g, rfl⟩ : ∃ g', g = g' + 1 := ⟨g - 1, by omega⟩
        have hzw := hJ.r.size
        have hBz := Nat.le_trans hBw hzw
        have hnl := hJ.l.own.len
        obtain ⟨A0, q0, rfl⟩ := hJ.l.own.sl
        have c2 := hJ.r.st.c2
        have HJ := hide hJ
        have HR := hide hR
        have HKB := hide hkb
        have HMS := hide (msR_on hJ.r.st)
        have HPK := hide (rPeek B c mb s D1 F1 wr hBz x hs hJ.r.st)
        have HNU := hide (fun (W : World) (h : rR B c mb s x (-1) D1 F F1 w W) => rNum_on B c mb s D1 F1 W (Nat.le_trans hBw h.size) x hs hx h.st)
        have HXT := hide (fun (y k : Nat) z (hy : y ≤ s.size) (h : dTys s (dOne s f) (s.size + 1) [] [] D1 y = .ok k z) => tys_go hy HJ.out.r.st.ok h)
        clear hJ hR hkb
        by_cases hE : s.data.toList[x]? = some 69
        · have HPE := hide (pkB_is hE)
          rw [HPE.out] at HPK
          by_cases h0 : n = 0
          · subst h0
            have hno : ¬ (acc.length ≠ 0 ∧ s.data.toList[x]? = some 69) := fun h => h.1 hnl
            clear hE HPE
            cases hnm : dNum s x with
            | bad e0 =>
              have hnf := dNum_from s x hx
              rw [hnm] at hnf
              simp only at hnf
              have hx8 : decide ((x : Int) < 0) = false := by simp
              have hx9 : (0 : Int) ≤ (x : Int) := by omega
              have HXE := hide hnf
              clear hnf
              have HND := hide hnm
              have HE := hide (HR.out.symm.trans (dParts_bad hno (dId_num (HXE.out ▸ hnm))))
              clear hnm
              go_wp2_with (first | (go_at_call 33; refine HPK.out.mono ?_; rintro e wp ⟨rfl, hrp⟩; have HJP := hide (HJ.out.adv stay_partU hrp); have c1' := hrp.st.c1; have f1' := hrp.st.f 1; clear hrp HPK) | (go_at_call 68; refine (HNU.out _ HJP.out.r).mono ?_; intro e w1 hrp; obtain ⟨rfl, _, y, hy, hr⟩ := hrp.of_bad HND.out; have HJ1 := hide (HJP.out.adv stay_partU hr); have HDW := hide (fun m => HJ1.out.adv stay_partU ((rR.refl HJ1.out.r.st).below (Nat.le_trans hBw HJ1.out.r.size) (below_drewN (Below.refl w1.heap.size w1) m))); have c0 := hr.st.c0; have c1 := hr.st.c1; have c2' := hr.st.c2; clear hr hrp c1' f1') | go_quiet (fail))
              go_ret2
              refine RP.bad HE.out ⟨A0, 0, q0, kb, rfl, y, D1, F1, ?_⟩
              first | exact HJ1.out.r | exact (HDW.out _).r
            | ok j nn =>
              have hnf := dNum_from s x hx
              rw [hnm] at hnf
              simp only at hnf
              obtain ⟨hxj, hj4, hjs⟩ := hnf
              have hn4 := (dNum_lt hnm).1
              have HND := hide hnm
              clear hnm
              by_cases hc : nn = 0 ∨ 60 < nn ∨ s.size < j + nn
              · have HE := hide (HR.out.symm.trans (dParts_bad hno (dId_len HND.out hc)))
                by_cases h00 : nn = 0
                · subst h00
                  clear hc
                  go_wp2_with (first | (go_at_call 33; refine HPK.out.mono ?_; rintro e wp ⟨rfl, hrp⟩; have HJP := hide (HJ.out.adv stay_partU hrp); have c1' := hrp.st.c1; have f1' := hrp.st.f 1; clear hrp HPK) | (go_at_call 68; refine (HNU.out _ HJP.out.r).mono ?_; intro e w1 hrp; obtain ⟨rfl, hr⟩ := hrp.of_ok HND.out; have HJ1 := hide (HJP.out.adv stay_partU hr); have HDW := hide (fun m => HJ1.out.adv stay_partU ((rR.refl HJ1.out.r.st).below (Nat.le_trans hBw HJ1.out.r.size) (below_drewN (Below.refl w1.heap.size w1) m))); have c0 := hr.st.c0; have c1 := hr.st.c1; have c2' := hr.st.c2; clear hr hrp c1' f1') | go_quiet (fail) | (go_at_call 35; refine (rFail_new B c mb s D1 F1 _ (Nat.le_trans hBw (HDW.out _).r.size) j x (HDW.out _).r.st).mono ?_; rintro e w2 ⟨rfl, hr⟩; have HR2 := hide ((HDW.out _).r.trans hr); have c2'' := hr.st.c2; clear hr))
                  go_ret2
                  exact RP.bad HE.out ⟨A0, 0, q0, kb, rfl, j, D1, F1, HR2.out⟩
                · have h01 : ¬ (nn : Int) = 0 := by omega
                  have h02 : ((nn : Int) == 0) = false := by simpa using h00
                  by_cases h6 : 60 < nn
                  · have h6' : (60 : Int) < (nn : Int) := by omega
                    clear hc
                    go_wp2_with (first | (go_at_call 33; refine HPK.out.mono ?_; rintro e wp ⟨rfl, hrp⟩; have HJP := hide (HJ.out.adv stay_partU hrp); have c1' := hrp.st.c1; have f1' := hrp.st.f 1; clear hrp HPK) | (go_at_call 68; refine (HNU.out _ HJP.out.r).mono ?_; intro e w1 hrp; obtain ⟨rfl, hr⟩ := hrp.of_ok HND.out; have HJ1 := hide (HJP.out.adv stay_partU hr); have HDW := hide (fun m => HJ1.out.adv stay_partU ((rR.refl HJ1.out.r.st).below (Nat.le_trans hBw HJ1.out.r.size) (below_drewN (Below.refl w1.heap.size w1) m))); have c0 := hr.st.c0; have c1 := hr.st.c1; have c2' := hr.st.c2; clear hr hrp c1' f1') | go_quiet (fail) | (go_at_call 35; refine (rFail_new B c mb s D1 F1 _ (Nat.le_trans hBw (HDW.out _).r.size) j x (HDW.out _).r.st).mono ?_; rintro e w2 ⟨rfl, hr⟩; have HR2 := hide ((HDW.out _).r.trans hr); have c2'' := hr.st.c2; clear hr))
                    go_ret2
                    exact RP.bad HE.out ⟨A0, 0, q0, kb, rfl, j, D1, F1, HR2.out⟩
                  · have h6' : decide ((60 : Int) < (nn : Int)) = false := by simp; omega
                    have h6'' : decide (60 < nn) = false := by simp; omega
                    have h7 : (s.size : Int) - (j : Int) < (nn : Int) := by omega
                    clear hc
                    go_wp2_with (first | (go_at_call 33; refine HPK.out.mono ?_; rintro e wp ⟨rfl, hrp⟩; have HJP := hide (HJ.out.adv stay_partU hrp); have c1' := hrp.st.c1; have f1' := hrp.st.f 1; clear hrp HPK) | (go_at_call 68; refine (HNU.out _ HJP.out.r).mono ?_; intro e w1 hrp; obtain ⟨rfl, hr⟩ := hrp.of_ok HND.out; have HJ1 := hide (HJP.out.adv stay_partU hr); have HDW := hide (fun m => HJ1.out.adv stay_partU ((rR.refl HJ1.out.r.st).below (Nat.le_trans hBw HJ1.out.r.size) (below_drewN (Below.refl w1.heap.size w1) m))); have c0 := hr.st.c0; have c1 := hr.st.c1; have c2' := hr.st.c2; clear hr hrp c1' f1') | go_quiet (fail) | (go_at_call 35; refine (rFail_new B c mb s D1 F1 _ (Nat.le_trans hBw (HDW.out _).r.size) j x (HDW.out _).r.st).mono ?_; rintro e w2 ⟨rfl, hr⟩; have HR2 := hide ((HDW.out _).r.trans hr); have c2'' := hr.st.c2; clear hr))
                    go_ret2
                    exact RP.bad HE.out ⟨A0, 0, q0, kb, rfl, j, D1, F1, HR2.out⟩
              · have HNC := hide hc
                have h00 : ¬ nn = 0 := fun e => hc (.inl e)
                have h01 : ¬ (nn : Int) = 0 := by omega
                have h02 : ((nn : Int) == 0) = false := by simpa using h00
                have h6' : decide ((60 : Int) < (nn : Int)) = false := by simp; omega
                have h6'' : decide (60 < nn) = false := by simp; omega
                have h7 : decide ((s.size : Int) - (j : Int) < (nn : Int)) = false := by simp; omega
                have hjn : j + nn ≤ s.size := by omega
                have hn60 : nn ≤ 60 := by omega
                clear hc
                go_wp2_with (first | (go_at_call 33; refine HPK.out.mono ?_; rintro e wp ⟨rfl, hrp⟩; have HJP := hide (HJ.out.adv stay_partU hrp); have c1' := hrp.st.c1; have f1' := hrp.st.f 1; clear hrp HPK) | (go_at_call 68; refine (HNU.out _ HJP.out.r).mono ?_; intro e w1 hrp; obtain ⟨rfl, hr⟩ := hrp.of_ok HND.out; have HJ1 := hide (HJP.out.adv stay_partU hr); have HDW := hide (fun m => HJ1.out.adv stay_partU ((rR.refl HJ1.out.r.st).below (Nat.le_trans hBw HJ1.out.r.size) (below_drewN (Below.refl w1.heap.size w1) m))); have c0 := hr.st.c0; have c1 := hr.st.c1; have c2' := hr.st.c2; clear hr hrp c1' f1') | go_quiet (fail))
                have HJq := hide (HDW.out nq)
                obtain ⟨w2, hw2⟩ : ∃ x, w1.drewN nq = x := ⟨_, rfl⟩
                rw [hw2] at HJq ⊢
                have c0 := HJq.out.r.st.c0
                have c1 := HJq.out.r.st.c1
                obtain ⟨z0, hz0⟩ : ∃ z, z = j + nn := ⟨_, rfl⟩
                have hz0s : z0 ≤ s.size := by omega
                have hjz : (j : Int) + (nn : Int) = (z0 : Int) := by omega
                have hwz : IntKind.i64.wrap (z0 : Int) = (z0 : Int) := by rw [IntKind.wrap_i64]; omega
                have hjz0 : j ≤ z0 := by omega
                have HZ0 := hide hz0
                clear hz0
                obtain ⟨xb, hxb⟩ : ∃ xb, s.extract j z0 = xb := ⟨_, rfl⟩
                have hxz : xb.size = nn := by rw [← hxb, ByteArray.size_extract]; have := HZ0.out; omega
                have hx60 : xb.size ≤ 60 := by omega
                have HXB := hide (show s.extract j (j + nn) = xb by rw [← HZ0.out]; exact hxb)
                have HW2 := hide hw2
                clear hw2
                refine wp_region_chain (fun W => W.cell? ⟨c, 0, none⟩ = some (.string s) ∧ W.cell? ⟨c, 1, none⟩ = some (.int .i64 (j : Nat))) 17 (by as_aux_lemma => kernel_rfl) (N := 18) (by as_aux_lemma => kernel_rfl) ?_; intro hsh
                have HS : w2.drew.cell? ⟨c, 0, none⟩ = some (.string s) ∧ w2.drew.cell? ⟨c, 1, none⟩ = some (.int .i64 (j : Nat)) := ⟨c0, c1⟩
                refine wpAnyC_take0 (i := 0) (k := 17) (v := ?_) (d := some 75) rfl (by rfl) (by as_aux_lemma => kernel_rfl) (by as_aux_lemma => kernel_rfl) (by as_aux_lemma => kernel_rfl) hsh (by decide) (by intro _ _ _ h; exact h) (by assumption) (Or.inl ⟨by rfl, ?hy⟩) ?_; (case hy => (intro W _; go_simp; (try with_reducible rfl))); clear hsh; intro hsh
                refine wpAnyC_take0 (i := 1) (k := 17) (v := ?_) (d := some 76) rfl (by rfl) (by as_aux_lemma => kernel_rfl) (by as_aux_lemma => kernel_rfl) (by as_aux_lemma => kernel_rfl) hsh (by decide) (by intro _ _ _ h; exact h) (by assumption) (Or.inl ⟨by rfl, ?hy⟩) ?_; (case hy => (intro W _; go_simp; (try with_reducible rfl))); clear hsh; intro hsh
                refine wpAnyC_take0 (i := 2) (k := 17) (v := ?_) (d := some 77) rfl (by rfl) (by as_aux_lemma => kernel_rfl) (by as_aux_lemma => kernel_rfl) (by as_aux_lemma => kernel_rfl) hsh (by decide) (by intro _ _ _ h; exact h) (by assumption) (Or.inl ⟨by rfl, ?hy⟩) ?_; (case hy => (intro W _; go_simp; (try with_reducible rfl))); clear hsh; intro hsh
                refine wpAnyC_take (i := 3) (k := 17) (f := 40) (v := ?_) (d := some 78) rfl (by rfl) (by as_aux_lemma => kernel_rfl) (by as_aux_lemma => kernel_rfl) (by as_aux_lemma => kernel_rfl) hsh (by decide) (by as_aux_lemma => kernel_rfl) (by intro _ _ _ h; exact h) (by assumption) (Or.inl ⟨by rfl, ?hy⟩) ?_; (case hy => (rintro W ⟨y0, y1⟩; go_simp; (try with_reducible rfl))); clear hsh; intro hsh
                refine wpAnyC_take0 (i := 4) (k := 17) (v := ?_) (d := some 79) rfl (by rfl) (by as_aux_lemma => kernel_rfl) (by as_aux_lemma => kernel_rfl) (by as_aux_lemma => kernel_rfl) hsh (by decide) (by intro _ _ _ h; exact h) (by assumption) (Or.inl ⟨by rfl, ?hy⟩) ?_; (case hy => (intro W _; go_simp; (try with_reducible rfl))); clear hsh; intro hsh
                refine wpAnyC_take0 (i := 5) (k := 17) (v := ?_) (d := some 80) rfl (by rfl) (by as_aux_lemma => kernel_rfl) (by as_aux_lemma => kernel_rfl) (by as_aux_lemma => kernel_rfl) hsh (by decide) (by intro _ _ _ h; exact h) (by assumption) (Or.inl ⟨by rfl, ?hy⟩) ?_; (case hy => (intro W _; go_simp; (try with_reducible rfl))); clear hsh; intro hsh
                refine wpAnyC_take0 (i := 6) (k := 17) (v := ?_) (d := some 81) rfl (by rfl) (by as_aux_lemma => kernel_rfl) (by as_aux_lemma => kernel_rfl) (by as_aux_lemma => kernel_rfl) hsh (by decide) (by intro _ _ _ h; exact h) (by assumption) (Or.inl ⟨by rfl, ?hy⟩) ?_; (case hy => (intro W _; go_simp; (try with_reducible rfl))); clear hsh; intro hsh
                refine wpAnyC_take (i := 7) (k := 17) (f := 40) (v := ?_) (d := some 82) rfl (by rfl) (by as_aux_lemma => kernel_rfl) (by as_aux_lemma => kernel_rfl) (by as_aux_lemma => kernel_rfl) hsh (by decide) (by as_aux_lemma => kernel_rfl) (by intro _ _ _ h; exact h) (by assumption) (Or.inl ⟨by rfl, ?hy⟩) ?_; (case hy => (rintro W ⟨y0, y1⟩; go_simp; (try with_reducible rfl))); clear hsh; intro hsh
                refine wpAnyC_take0 (i := 8) (k := 17) (v := ?_) (d := some 83) rfl (by rfl) (by as_aux_lemma => kernel_rfl) (by as_aux_lemma => kernel_rfl) (by as_aux_lemma => kernel_rfl) hsh (by decide) (by intro _ _ _ h; exact h) (by assumption) (Or.inl ⟨by rfl, ?hy⟩) ?_; (case hy => (intro W _; go_simp; (try with_reducible rfl))); clear hsh; intro hsh
                refine wpAnyC_take0 (i := 9) (k := 17) (v := ?_) (d := some 84) rfl (by rfl) (by as_aux_lemma => kernel_rfl) (by as_aux_lemma => kernel_rfl) (by as_aux_lemma => kernel_rfl) hsh (by decide) (by intro _ _ _ h; exact h) (by assumption) (Or.inl ⟨by rfl, ?hy⟩) ?_; (case hy => (intro W _; go_simp; (try with_reducible rfl))); clear hsh; intro hsh
                refine wpAnyC_take0 (i := 10) (k := 17) (v := ?_) (d := some 85) rfl (by rfl) (by as_aux_lemma => kernel_rfl) (by as_aux_lemma => kernel_rfl) (by as_aux_lemma => kernel_rfl) hsh (by decide) (by intro _ _ _ h; exact h) (by assumption) (Or.inl ⟨by rfl, ?hy⟩) ?_; (case hy => (intro W _; go_simp; (try with_reducible rfl))); clear hsh; intro hsh
                refine wpAnyC_take (i := 11) (k := 17) (f := 40) (v := ?_) (d := some 86) rfl (by rfl) (by as_aux_lemma => kernel_rfl) (by as_aux_lemma => kernel_rfl) (by as_aux_lemma => kernel_rfl) hsh (by decide) (by as_aux_lemma => kernel_rfl) (by intro _ _ _ h; exact h) (by assumption) (Or.inl ⟨by rfl, ?hy⟩) ?_; (case hy => (rintro W ⟨y0, y1⟩; go_simp; (try with_reducible rfl))); clear hsh; intro hsh
                refine wpAnyC_take0 (i := 12) (k := 17) (v := ?_) (d := some 87) rfl (by rfl) (by as_aux_lemma => kernel_rfl) (by as_aux_lemma => kernel_rfl) (by as_aux_lemma => kernel_rfl) hsh (by decide) (by intro _ _ _ h; exact h) (by assumption) (Or.inl ⟨by rfl, ?hy⟩) ?_; (case hy => (intro W _; go_simp; (try with_reducible rfl))); clear hsh; intro hsh
                refine wpAnyC_take0 (i := 13) (k := 17) (v := ?_) (d := some 88) rfl (by rfl) (by as_aux_lemma => kernel_rfl) (by as_aux_lemma => kernel_rfl) (by as_aux_lemma => kernel_rfl) hsh (by decide) (by intro _ _ _ h; exact h) (by assumption) (Or.inl ⟨by rfl, ?hy⟩) ?_; (case hy => (intro W _; go_simp; (try with_reducible rfl))); clear hsh; intro hsh
                refine wpAnyC_take0 (i := 14) (k := 17) (v := ?_) (d := some 89) rfl (by rfl) (by as_aux_lemma => kernel_rfl) (by as_aux_lemma => kernel_rfl) (by as_aux_lemma => kernel_rfl) hsh (by decide) (by intro _ _ _ h; exact h) (by assumption) (Or.inl ⟨by rfl, ?hy⟩) ?_; (case hy => (intro W _; go_simp; (try with_reducible rfl))); clear hsh; intro hsh
                refine wpAnyC_take0 (i := 15) (k := 17) (v := ?_) (d := some 90) rfl (by rfl) (by as_aux_lemma => kernel_rfl) (by as_aux_lemma => kernel_rfl) (by as_aux_lemma => kernel_rfl) hsh (by decide) (by intro _ _ _ h; exact h) (by assumption) (Or.inl ⟨by rfl, ?hy⟩) ?_; (case hy => (intro W _; go_simp; (try with_reducible rfl))); clear hsh; intro hsh
                refine wpAnyC_ready (rs := [16]) (by as_aux_lemma => kernel_rfl) (by simp) ?_; refine AllC.cons (i := 16) rfl (by as_aux_lemma => kernel_rfl) hsh (fun K hK => ?_) AllC.nil
                go_simp
                refine hK _ _ (fun _ => ⟨(HJq.out.adv stay_partU ((rR.refl HJq.out.r.st).below (Nat.le_trans hBw HJq.out.r.size) ((below_drewN (Below.refl w2.heap.size w2) 1).alloc (Nat.le_refl _) _))).r.st.c0, (HJq.out.adv stay_partU ((rR.refl HJq.out.r.st).below (Nat.le_trans hBw HJq.out.r.size) ((below_drewN (Below.refl w2.heap.size w2) 1).alloc (Nat.le_refl _) _))).r.st.c1⟩) ?_
                clear hK K hsh HS
                intro hsh
                refine wpAnyC_tail (by as_aux_lemma => kernel_rfl) (by simp) (by as_aux_lemma => kernel_rfl) ?_; simp only [List.drop_succ_cons, List.drop_zero]; clear hsh
                go_simp
                go_wp2_with (fail)
                have HNE := hide HJq.out.nw
                have hpb : w.heap.size ≤ w2.heap.size := HJq.out.r.size
                have hr2 := (rR.refl HJq.out.r.st).below (Nat.le_trans hBw hpb) (below_adR w2 (.cells #[.string xb, .slice none 0 0] 76))
                have HJ2 := hide (HJq.out.adv stay_partU hr2)
                have HB2 := hide (show rBk c mb (w2.alloc (.cells #[.string xb, .slice none 0 0] 76)).drew F1 w2.heap.size (.cells #[.string xb, .slice none 0 0] 76) from (rBk.new HJq.out.r.st (.cells #[.string xb, .slice none 0 0] 76)).step ((rR.refl (HJq.out.adv stay_partU ((rR.refl HJq.out.r.st).alloc (Nat.le_trans hBw hpb) (.cells #[.string xb, .slice none 0 0] 76))).r.st).drew (Nat.le_trans hBw (by simp; omega))))
                obtain ⟨pb, hpbe⟩ : ∃ x, w2.heap.size = x := ⟨_, rfl⟩
                rw [hpbe] at HB2 HNE hpb ⊢
                have nb0 : ¬ 9223372036854775807 < 1 + xb.size := by omega
                have nc0 : ¬ 9223372036854775807 < kb.size + (1 + xb.size) := by omega
                clear hr2 hpbe hxb HJq HW2 HDW hjz hwz hjz0 hz0s
                go_loopw [92] (fun yy wr => ∃ (k : Nat) (q : Int), yy = .int .i64 k ∧ k ≤ nn ∧ ((q = -1 ∧ ∀ m, m < k → ∀ d, s.data.toList[j + m]? = some d → okId m d = true) ∨ (∃ k0, k0 < k ∧ k0 < nn ∧ q = (j : Int) + (k0 : Int) ∧ idN s j nn = k0)) ∧ rJ B c mb s 76 2 PartU F w j q D1 F1 wr (.slice A0 0 q0) 0 acc ∧ rBk c mb wr F1 pb (.cells #[.string xb, .slice none 0 0] 76)) (fun yy _ => nn - (intOf yy).toNat)
                case atStart => exact ⟨0, -1, rfl, Nat.zero_le _, .inl ⟨rfl, fun m h => by omega⟩, HJ2.out, HB2.out⟩
                case round =>
                  obtain ⟨k, q, rfl, hk, hcase, hj3, hb3⟩ := hrel
                  have c0 := hj3.r.st.c0
                  have c1 := hj3.r.st.c1
                  have c2 := hj3.r.st.c2
                  have f1 := hj3.r.st.f 1
                  have HDI := hide (fun m => hj3.adv stay_partU ((rR.refl hj3.r.st).below (Nat.le_trans hBw hj3.r.size) (below_drewN (Below.refl wr.heap.size wr) m)))
                  have HDB := hide (fun m => hb3.step ((rR.refl hj3.r.st).below (Nat.le_trans hBw hj3.r.size) (below_drewN (Below.refl wr.heap.size wr) m)))
                  have HJ3 := hide hj3
                  have HB3 := hide hb3
                  clear hj3 hb3
                  by_cases hlt : k < nn
                  · obtain ⟨y, hy⟩ : ∃ y, y = j + k := ⟨_, rfl⟩
                    have hjy : y < s.size := by omega
                    have hjx : (j : Int) + (k : Int) = (y : Int) := by omega
                    have HY := hide hy
                    clear hy
                    have hlt' : (k : Int) < (nn : Int) := by omega
                    rcases hcase with ⟨rfl, hall⟩ | ⟨k0, hk0, hk0n, hq, hid⟩
                    · have HALL := hide hall
                      clear hall
                      by_cases hk0 : k = 0
                      · subst hk0
                        obtain rfl : j = y := by have := HY.out; omega
                        clear hjx
                        have HL := hide (fun W => letter_ok0 s[j] W)
                        cases hv : okId 0 s[j]
                        · have HID := hide (show idN s j nn = 0 from idN_is (by omega) (by omega) (fun m h => by omega) (fun _ d h => by rw [okId_getD hjy d h]; exact hv))
                          rw [hv] at HL
                          clear hv
                          go_wp2_with (first | go_quiet (first | (go_at_call 69; exact Calls.quiet_of_same (HL.out _))) | (go_at_call 69; refine (HL.out _).mono ?_; rintro e w' ⟨rfl, rfl⟩) | (go_at_call 35; refine (rFail_new B c mb s D1 F1 _ (Nat.le_trans hBw (HDI.out _).r.size) j j (HDI.out _).r.st).mono ?_; rintro e w6 ⟨rfl, hr⟩; have HJ6 := hide ((HDI.out _).adv stay_partU hr); have HB6 := hide ((HDB.out _).step hr); clear hr))
                          go_roundw
                          case rel => exact ⟨0 + 1, j, by go_num, by omega, .inr ⟨0, by omega, hlt, by omega, HID.out⟩, HJ6.out, HB6.out⟩
                          case measure => simp [intOf]; omega
                        · have HK := hide (show ∀ d, s.data.toList[j + 0]? = some d → okId 0 d = true from fun d h => by rw [okId_getD hjy d h]; exact hv)
                          rw [hv] at HL
                          clear hv
                          go_wp2_with (first | go_quiet (first | (go_at_call 69; exact Calls.quiet_of_same (HL.out _))) | (go_at_call 69; refine (HL.out _).mono ?_; rintro e w' ⟨rfl, rfl⟩))
                          go_roundw
                          case rel => exact ⟨0 + 1, -1, by go_num, by omega, .inl ⟨rfl, fun m hm d hd => by (by_cases e : m = 0); (subst e; exact HK.out d hd); exact HALL.out m (by omega) d hd⟩, HDI.out _, HDB.out _⟩
                          case measure => simp [intOf]; omega
                      · have hk1 : ¬ (k : Int) = 0 := by omega
                        have hk1' : ((k : Int) == 0) = false := by simp; omega
                        have HL := hide (fun W => letter_okS s[y] (k := k) (by omega) W)
                        cases hv : okId k s[y]
                        · have HID := hide (show idN s j nn = k from idN_is (by omega) (by omega) HALL.out (fun _ d h => by rw [okId_getD hjy d (by rw [HY.out]; exact h)]; exact hv))
                          rw [hv] at HL
                          clear hv
                          go_wp2_with (first | go_quiet (first | (go_at_call 69; exact Calls.quiet_of_same (HL.out _))) | (go_at_call 69; refine (HL.out _).mono ?_; rintro e w' ⟨rfl, rfl⟩) | (go_at_call 35; refine (rFail_new B c mb s D1 F1 _ (Nat.le_trans hBw (HDI.out _).r.size) j y (HDI.out _).r.st).mono ?_; rintro e w6 ⟨rfl, hr⟩; have HJ6 := hide ((HDI.out _).adv stay_partU hr); have HB6 := hide ((HDB.out _).step hr); clear hr))
                          go_roundw
                          case rel => exact ⟨k + 1, y, by go_num, by omega, .inr ⟨k, by omega, hlt, by omega, HID.out⟩, HJ6.out, HB6.out⟩
                          case measure => simp [intOf]; omega
                        · have HK := hide (show ∀ d, s.data.toList[j + k]? = some d → okId k d = true from fun d h => by rw [okId_getD hjy d (by rw [HY.out]; exact h)]; exact hv)
                          rw [hv] at HL
                          clear hv
                          go_wp2_with (first | go_quiet (first | (go_at_call 69; exact Calls.quiet_of_same (HL.out _))) | (go_at_call 69; refine (HL.out _).mono ?_; rintro e w' ⟨rfl, rfl⟩))
                          go_roundw
                          case rel => exact ⟨k + 1, -1, by go_num, by omega, .inl ⟨rfl, fun m hm d hd => by (by_cases e : m = k); (subst e; exact HK.out d hd); exact HALL.out m (by omega) d hd⟩, HDI.out _, HDB.out _⟩
                          case measure => simp [intOf]; omega
                    · have hk1 : ¬ (k : Int) = 0 := by omega
                      have hk1' : ((k : Int) == 0) = false := by simp; omega
                      have HL := hide (fun W => letter_okS s[y] (k := k) (by omega) W)
                      have HQQ := hide hq
                      have HQI := hide hid
                      have hq0 : 0 ≤ q := by omega
                      clear hq hid
                      cases hv : okId k s[y]
                      · rw [hv] at HL
                        clear hv
                        go_wp2_with (first | go_quiet (first | (go_at_call 69; exact Calls.quiet_of_same (HL.out _))) | (go_at_call 69; refine (HL.out _).mono ?_; rintro e w' ⟨rfl, rfl⟩) | (go_at_call 35; refine (rFail_old B c mb s D1 F1 _ (Nat.le_trans hBw (HDI.out _).r.size) j q y hq0 (HDI.out _).r.st).mono ?_; rintro e w6 ⟨rfl, hr⟩; have HJ6 := hide ((HDI.out _).adv stay_partU hr); have HB6 := hide ((HDB.out _).step hr); clear hr))
                        go_roundw
                        case rel => exact ⟨k + 1, q, by go_num, by omega, .inr ⟨k0, by omega, hk0n, HQQ.out, HQI.out⟩, HJ6.out, HB6.out⟩
                        case measure => simp [intOf]; omega
                      · rw [hv] at HL
                        clear hv
                        go_wp2_with (first | go_quiet (first | (go_at_call 69; exact Calls.quiet_of_same (HL.out _))) | (go_at_call 69; refine (HL.out _).mono ?_; rintro e w' ⟨rfl, rfl⟩))
                        go_roundw
                        case rel => exact ⟨k + 1, q, by go_num, by omega, .inr ⟨k0, by omega, hk0n, HQQ.out, HQI.out⟩, HDI.out _, HDB.out _⟩
                        case measure => simp [intOf]; omega
                  · obtain rfl : k = nn := by omega
                    have hlt' : decide ((k : Int) < (k : Int)) = false := by simp
                    rcases hcase with ⟨rfl, hall⟩ | ⟨k0, hk0, hk0n, hq, hid⟩
                    · have HALL := hide hall
                      clear hall
                      have HIDN := hide (idN_is (by omega) (Nat.le_refl _) HALL.out (fun h => by omega))
                      have HDI2 := hide (show dId s x = .ok (j + k) xb by rw [dId_fine HND.out HNC.out HIDN.out, HXB.out])
                      obtain ⟨z, hz⟩ : ∃ z, z = j + k := ⟨_, rfl⟩
                      have hzj : (j : Int) + (k : Int) = (z : Int) := by omega
                      have HZ := hide hz
                      rw [← hz] at HDI2
                      have hzs : z ≤ s.size := by omega
                      have hzx : x + 1 + k ≤ z := by omega
                      clear hz
                      have HJ4 := hide (HJ3.out.adv stay_partU ((rR.refl HJ3.out.r.st).set1 (Nat.le_trans hBw HJ3.out.r.size) (z : Int)))
                      have HB4 := hide (HB3.out.step ((rR.refl HJ3.out.r.st).set1 (Nat.le_trans hBw HJ3.out.r.size) (z : Int)))
                      have m0 := block_cell HB4.out.1 0
                      have m1 := block_cell HB4.out.1 1
                      have HPJ := hide (rPeek B c mb s D1 F1 _ (Nat.le_trans hBw HJ4.out.r.size) z hs HJ4.out.r.st)
                      by_cases hI : s.data.toList[z]? = some 73
                      · have hp73 : ((pkB s z).toNat : Int) = 73 := by rw [pkB_is hI]; rfl
                        have hyl := get_lt hI
                        have HTC := hide (fun (W : World) (h : rR B c mb s ((z + 1 : Nat) : Int) (-1) D1 F F1 w W) => HTYS.out B c mb D1 F1 (z + 1) d W (Nat.le_trans hBw h.size) hs hyl (by omega) HDD.out h.st)
                        cases ht : dTys s (dOne s f) (s.size + 1) [] [] D1 (z + 1) with
                        | bad e0 =>
                          have HE := hide (HR.out.symm.trans (dParts_in hno HDI2.out hI ht))
                          have HTD := hide ht
                          clear hI ht
                          go_wp2_with (first | (go_at_call 33; refine HPJ.out.mono ?_; rintro e w6 ⟨rfl, hr⟩; have HJ5 := hide (HJ4.out.adv stay_partU hr); have HB5 := hide (HB4.out.step hr); have m0' := block_cell HB5.out.1 0; have m1' := block_cell HB5.out.1 1; have g1' := hr.st.c1; have gf1' := hr.st.f 1; have HJ6 := hide (show rJ B c mb s 76 2 PartU F w ((z + 1 : Nat) : Int) (-1) D1 F1 (w6.setCell ⟨c, 1, none⟩ (.int .i64 ((z : Int) + 1))) (.slice A0 0 q0) 0 acc from by rw [show ((z + 1 : Nat) : Int) = (z : Int) + 1 by omega]; exact HJ5.out.adv stay_partU ((rR.refl HJ5.out.r.st).set1 (Nat.le_trans hBw HJ5.out.r.size) _)); have HB6 := hide (HB5.out.step ((rR.refl HJ5.out.r.st).set1 (Nat.le_trans hBw HJ5.out.r.size) ((z : Int) + 1))); clear hr HPJ m0 m1) | (go_at_call 70; refine (HTC.out _ HJ6.out.r).mono ?_; intro e w7 hrp; obtain ⟨A5, n5, q5, tb, rfl, htz, y5, D5, F5, hr5⟩ := hrp.of_bad HTD.out; have HJ7 := hide (HJ6.out.adv stay_partU hr5); have HB7 := hide (HB6.out.step hr5); have f1'' := block_free HB7.out.1 1; have p0'' := block_cell HB7.out.1 0; have p1'' := block_cell HB7.out.1 1; have HJ9 := hide (HJ7.out.other stay_partU hBw hpb HB7.out.2 HNE.out (.slice A5 n5 q5) (k := 1)); have HB9 := hide (HB7.out.set (k := 1) HJ7.out.r.st (.slice A5 n5 q5)); have m0'' := block_cell HB9.out.1 0; have m1'' := block_cell HB9.out.1 1; simp at m0'' m1''; have nb1 : ¬ 9223372036854775807 < 1 + tb.size := (by omega); have nb2 : ¬ 9223372036854775807 < 1 + tb.size + 1 := (by omega); have nb3 : ¬ 9223372036854775807 < kb.size + (1 + xb.size) + (1 + tb.size + 1) := (by omega); clear hr5 hrp) | (at_builtin; refine wpList_append_own_at _ rfl (.tmp 154) (.tmp 156) 22 rfl w.heap.size 76 i0 (.agg #[.string ⟨#[]⟩, .slice none 0 0]) 2 40 Tryd.underlying22 hi0 iz0 iz1 iz2 rfl (by decide) _ 0 _ rfl (HJ9.out.l.own.choose_spec.1.alloc _) ⟨w7.heap.size, 0, none⟩ 1 1 [.string xb, .slice A5 n5 q5] rfl rfl (cells_new3R w7 ⟨pb, 1, none⟩ (.slice A5 n5 q5) [.string xb, .slice A5 n5 q5] _) (by intro u hu; simp at hu; rcases hu with rfl | rfl <;> rfl) (by unfold maxLen; omega) (by omega) (by have := HJ9.out.r.size; simp at this ⊢; omega) ?_; intro v2 w8 hown2 hg2 _ hv2; obtain ⟨ao, cp, rfl⟩ := own_sl hown2; have HR8 := hide (HJ9.out.grow hBw (Below.alloc (Below.refl _ _) (Nat.le_refl _) _) hg2); clear hown2 hg2 hv2))
                          go_roundw
                          case rel => exact .inr ⟨ao, _, cp, e0, y5, D5, F5, _, rfl, rfl, HE.out, HR8.out⟩
                          case measure => rw [HMS.out, msR_off (by omega) HR8.out.st]; omega
                        | ok kk zz =>
                          have HE := hide ((dParts_go hno HDI2.out hI ht).symm.trans HR.out)
                          have hgo := HXT.out (z + 1) kk zz hyl ht
                          have HTD := hide ht
                          clear hI ht
                          obtain ⟨tl, ids, D2⟩ := zz
                          have hky := hgo.lt
                          have hks := hgo.le
                          have hkl := hgo.ext.len
                          have hpos := hgo.pos
                          simp only at hkl hpos
                          go_wp2_with (first | (go_at_call 33; refine HPJ.out.mono ?_; rintro e w6 ⟨rfl, hr⟩; have HJ5 := hide (HJ4.out.adv stay_partU hr); have HB5 := hide (HB4.out.step hr); have m0' := block_cell HB5.out.1 0; have m1' := block_cell HB5.out.1 1; have g1' := hr.st.c1; have gf1' := hr.st.f 1; have HJ6 := hide (show rJ B c mb s 76 2 PartU F w ((z + 1 : Nat) : Int) (-1) D1 F1 (w6.setCell ⟨c, 1, none⟩ (.int .i64 ((z : Int) + 1))) (.slice A0 0 q0) 0 acc from by rw [show ((z + 1 : Nat) : Int) = (z : Int) + 1 by omega]; exact HJ5.out.adv stay_partU ((rR.refl HJ5.out.r.st).set1 (Nat.le_trans hBw HJ5.out.r.size) _)); have HB6 := hide (HB5.out.step ((rR.refl HJ5.out.r.st).set1 (Nat.le_trans hBw HJ5.out.r.size) ((z : Int) + 1))); clear hr HPJ m0 m1) | (go_at_call 70; refine (HTC.out _ HJ6.out.r).mono ?_; intro e w7 hrp; obtain ⟨F5, A5, n5, q5, tb, rfl, htb, htz, hnq, hqm, hsl, hr5⟩ := hrp.of_ok HTD.out; have HJ7 := hide (HJ6.out.adv stay_partU hr5); have HB7 := hide (HB6.out.step hr5); have f1'' := block_free HB7.out.1 1; have p0'' := block_cell HB7.out.1 0; have p1'' := block_cell HB7.out.1 1; have HJ9 := hide (HJ7.out.other stay_partU hBw hpb HB7.out.2 HNE.out (.slice A5 n5 q5) (k := 1)); have HB9 := hide (HB7.out.set (k := 1) HJ7.out.r.st (.slice A5 n5 q5)); have m0'' := block_cell HB9.out.1 0; have m1'' := block_cell HB9.out.1 1; simp at m0'' m1''; have nb1 : ¬ 9223372036854775807 < 1 + tb.size := (by omega); have nb2 : ¬ 9223372036854775807 < 1 + tb.size + 1 := (by omega); have nb3 : ¬ 9223372036854775807 < kb.size + (1 + xb.size) + (1 + tb.size + 1) := (by omega); have HSTY := stay_ownR (k := 1) (x := .slice A5 n5 q5) HB7.out.2; have HTS6 := hide (hsl.stay (S' := F5) (R' := TyU (w7.setCell ⟨pb, 1, none⟩ (.slice A5 n5 q5)) F5) HSTY (fun _ h _ => h) (fun a _ cs h => stay_tyU _ _ _ _ a cs h HSTY (fun _ h _ => h))); have HTB5 := hide htb; clear hsl htb HSTY; clear hr5 hrp) | (at_builtin; refine wpList_append_own_at _ rfl (.tmp 154) (.tmp 156) 22 rfl w.heap.size 76 i0 (.agg #[.string ⟨#[]⟩, .slice none 0 0]) 2 40 Tryd.underlying22 hi0 iz0 iz1 iz2 rfl (by decide) _ 0 _ rfl (HJ9.out.l.own.choose_spec.1.alloc _) ⟨w7.heap.size, 0, none⟩ 1 1 [.string xb, .slice A5 n5 q5] rfl rfl (cells_new3R w7 ⟨pb, 1, none⟩ (.slice A5 n5 q5) [.string xb, .slice A5 n5 q5] _) (by intro u hu; simp at hu; rcases hu with rfl | rfl <;> rfl) (by unfold maxLen; omega) (by omega) (by have := HJ9.out.r.size; simp at this ⊢; omega) ?_; intro v2 w8 hown2 hg2 _ hv2; obtain ⟨ao, cp, rfl⟩ := own_sl hown2; have HJ8 := hide (HJ9.out.push stay_partU hBw rfl (part_go xb hx60 hnq hqm HTS6.out) (Below.alloc (Below.refl _ _) (Nat.le_refl _) _) hown2 hg2 hv2); clear hown2 hg2 hv2))
                          go_roundw
                          case rel => exact .inl ⟨0 + 1, g, kk, acc ++ [(xb, tl)], sh ++ [(xb, ids)], D2, F5, kb ++ (⟨#[46]⟩ ++ xb) ++ (⟨#[60]⟩ ++ tb ++ ⟨#[62]⟩), rfl, by rw [app_toList, app_toList, app_toList, app_toList, app_toList, HKB.out, HTB5.out, rParts_snoc, pBody_some hpos]; simp, by simp only [ByteArray.size_append]; show kb.size + (1 + xb.size) + (1 + tb.size + 1) + 5 * i ≤ 5 * kk; omega, HJ8.out, hks, by omega, by omega, by omega, HE.out⟩
                          case measure => rw [HMS.out, msR_on HJ8.out.r.st]; omega
                      · have HE := hide ((dParts_no hno HDI2.out hI).symm.trans HR.out)
                        have hne2 := pk_ne (by decide) hI
                        have hne2' : (((pkB s z).toNat : Int) == 73) = false := by simpa using hne2
                        clear hI
                        go_wp2_with (first | (go_at_call 33; refine HPJ.out.mono ?_; rintro e w6 ⟨rfl, hr⟩; have HJ5 := hide (HJ4.out.adv stay_partU hr); have HB5 := hide (HB4.out.step hr); have m0' := block_cell HB5.out.1 0; have m1' := block_cell HB5.out.1 1; have g1' := hr.st.c1; have gf1' := hr.st.f 1; clear hr HPJ m0 m1) | (at_builtin; refine wpList_append_own_at _ rfl (.tmp 154) (.tmp 156) 22 rfl w.heap.size 76 i0 (.agg #[.string ⟨#[]⟩, .slice none 0 0]) 2 40 Tryd.underlying22 hi0 iz0 iz1 iz2 rfl (by decide) _ 0 _ rfl (HJ5.out.l.own.choose_spec.1.alloc _) ⟨w6.heap.size, 0, none⟩ 1 1 [.string xb, .slice none 0 0] rfl rfl (cells_new w6 [.string xb, .slice none 0 0] _) (by intro u hu; simp at hu; rcases hu with rfl | rfl <;> rfl) (by unfold maxLen; omega) (by omega) (by have := HJ5.out.r.size; simp at this ⊢; omega) ?_; intro v2 w8 hown2 hg2 _ hv2; obtain ⟨ao, cp, rfl⟩ := own_sl hown2; have HJ8 := hide (HJ5.out.push stay_partU hBw rfl (part_no xb hx60) (Below.alloc (Below.refl _ _) (Nat.le_refl _) _) hown2 hg2 hv2); clear hown2 hg2 hv2))
                        go_roundw
                        case rel => exact .inl ⟨0 + 1, g, z, acc ++ [(xb, [])], sh ++ [(xb, [])], D1, F1, kb ++ (⟨#[46]⟩ ++ xb), rfl, by rw [app_toList, app_toList, HKB.out, rParts_snoc, pBody_nil]; simp, by rw [ByteArray.size_append, ByteArray.size_append]; show kb.size + (1 + xb.size) + 5 * i ≤ 5 * z; omega, HJ8.out, hzs, by omega, by omega, by omega, HE.out⟩
                        case measure => rw [HMS.out, msR_on HJ8.out.r.st]; omega
                    · have hnk : ¬ k < k0 := by omega
                      have HE := hide (HR.out.symm.trans (dParts_bad hno (dId_chr HND.out HNC.out hid (by omega))))
                      have HJ4 := hide (HJ3.out.adv stay_partU ((rR.refl HJ3.out.r.st).set1 (Nat.le_trans hBw HJ3.out.r.size) ((j : Int) + (k : Int))))
                      have HB4 := hide (HB3.out.step ((rR.refl HJ3.out.r.st).set1 (Nat.le_trans hBw HJ3.out.r.size) ((j : Int) + (k : Int))))
                      have m0 := block_cell HB4.out.1 0
                      have m1 := block_cell HB4.out.1 1
                      have HPJ := hide (rPeek_off B c mb s D1 F1 _ (Nat.le_trans hBw HJ4.out.r.size) ((j : Int) + (k : Int)) q (by omega) HJ4.out.r.st)
                      have HQE := hide (show q = ((j + k0 : Nat) : Int) by omega)
                      have hq0 : 0 ≤ q := by omega
                      clear hid hq
                      go_wp2_with (first | (go_at_call 33; refine HPJ.out.mono ?_; rintro e w6 ⟨rfl, hr⟩; have HJ5 := hide (HJ4.out.adv stay_partU hr); have HB5 := hide (HB4.out.step hr); have m0' := block_cell HB5.out.1 0; have m1' := block_cell HB5.out.1 1; clear hr HPJ m0 m1) | (at_builtin; refine wpList_append_own_at _ rfl (.tmp 154) (.tmp 156) 22 rfl w.heap.size 76 i0 (.agg #[.string ⟨#[]⟩, .slice none 0 0]) 2 40 Tryd.underlying22 hi0 iz0 iz1 iz2 rfl (by decide) _ 0 _ rfl (HJ5.out.l.own.choose_spec.1.alloc _) ⟨w6.heap.size, 0, none⟩ 1 1 [.string xb, .slice none 0 0] rfl rfl (cells_new w6 [.string xb, .slice none 0 0] _) (by intro u hu; simp at hu; rcases hu with rfl | rfl <;> rfl) (by unfold maxLen; omega) (by omega) (by have := HJ5.out.r.size; simp at this ⊢; omega) ?_; intro v2 w8 hown2 hg2 _ hv2; obtain ⟨ao, cp, rfl⟩ := own_sl hown2; have HR8 := hide (HJ5.out.grow hBw (Below.alloc (Below.refl _ _) (Nat.le_refl _) _) hg2); clear hown2 hg2 hv2))
                      go_roundw
                      case rel => exact .inr ⟨ao, _, cp, j + k0, _, D1, F1, _, rfl, rfl, HE.out, by rw [← HQE.out]; exact HR8.out⟩
                      case measure => rw [HMS.out, msR_off hq0 HR8.out.st]; omega
          · have h0' : (0 : Int) < (n : Int) := by omega
            have HE := hide (HR.out.symm.trans (dParts_end (by omega) hE))
            have hxs := get_lt hE
            clear hE
            go_wp2_with (first | (go_at_call 33; refine HPK.out.mono ?_; rintro e wp ⟨rfl, hrp⟩; have HJP := hide (HJ.out.adv stay_partU hrp); have c1' := hrp.st.c1; have f1' := hrp.st.f 1; clear hrp HPK))
            go_ret2
            have HJ9 : rJ B c mb s 76 2 PartU F w ((x + 1 : Nat) : Int) (-1) D1 F1 (wp.setCell ⟨c, 1, none⟩ (.int .i64 ((x : Int) + 1))) (.slice A0 n q0) n acc := by
              rw [show ((x + 1 : Nat) : Int) = (x : Int) + 1 by omega]
              exact HJP.out.adv stay_partU ((rR.refl HJP.out.r.st).set1 (Nat.le_trans hBw HJP.out.r.size) _)
            obtain ⟨F2, hr2, hFF, A2, q2, hv2, hnq, hqm, hsl⟩ := HJ9.done stay_partU
            injection hv2 with e1 e2 e3
            subst e1 e3
            exact RP.ok HE.out ⟨F2, A0, n, q0, kb, rfl, HKB.out, by omega, hnq, hqm, hsl, hr2⟩
        · have hno : ¬ (acc.length ≠ 0 ∧ s.data.toList[x]? = some 69) := fun h => hE h.2
          have hne := pk_ne (by decide) hE
          have hne' : (((pkB s x).toNat : Int) == 69) = false := by simpa using hne
          clear hE
          cases hnm : dNum s x with
          | bad e0 =>
            have hnf := dNum_from s x hx
            rw [hnm] at hnf
            simp only at hnf
            have hx8 : decide ((x : Int) < 0) = false := by simp
            have hx9 : (0 : Int) ≤ (x : Int) := by omega
            have HXE := hide hnf
            clear hnf
            have HND := hide hnm
            have HE := hide (HR.out.symm.trans (dParts_bad hno (dId_num (HXE.out ▸ hnm))))
            clear hnm
            go_wp2_with (first | (go_at_call 33; refine HPK.out.mono ?_; rintro e wp ⟨rfl, hrp⟩; have HJP := hide (HJ.out.adv stay_partU hrp); have c1' := hrp.st.c1; have f1' := hrp.st.f 1; clear hrp HPK) | (go_at_call 68; refine (HNU.out _ HJP.out.r).mono ?_; intro e w1 hrp; obtain ⟨rfl, _, y, hy, hr⟩ := hrp.of_bad HND.out; have HJ1 := hide (HJP.out.adv stay_partU hr); have HDW := hide (fun m => HJ1.out.adv stay_partU ((rR.refl HJ1.out.r.st).below (Nat.le_trans hBw HJ1.out.r.size) (below_drewN (Below.refl w1.heap.size w1) m))); have c0 := hr.st.c0; have c1 := hr.st.c1; have c2' := hr.st.c2; clear hr hrp c1' f1') | go_quiet (fail))
            go_ret2
            refine RP.bad HE.out ⟨A0, n, q0, kb, rfl, y, D1, F1, ?_⟩
            first | exact HJ1.out.r | exact (HDW.out _).r
          | ok j nn =>
            have hnf := dNum_from s x hx
            rw [hnm] at hnf
            simp only at hnf
            obtain ⟨hxj, hj4, hjs⟩ := hnf
            have hn4 := (dNum_lt hnm).1
            have HND := hide hnm
            clear hnm
            by_cases hc : nn = 0 ∨ 60 < nn ∨ s.size < j + nn
            · have HE := hide (HR.out.symm.trans (dParts_bad hno (dId_len HND.out hc)))
              by_cases h00 : nn = 0
              · subst h00
                clear hc
                go_wp2_with (first | (go_at_call 33; refine HPK.out.mono ?_; rintro e wp ⟨rfl, hrp⟩; have HJP := hide (HJ.out.adv stay_partU hrp); have c1' := hrp.st.c1; have f1' := hrp.st.f 1; clear hrp HPK) | (go_at_call 68; refine (HNU.out _ HJP.out.r).mono ?_; intro e w1 hrp; obtain ⟨rfl, hr⟩ := hrp.of_ok HND.out; have HJ1 := hide (HJP.out.adv stay_partU hr); have HDW := hide (fun m => HJ1.out.adv stay_partU ((rR.refl HJ1.out.r.st).below (Nat.le_trans hBw HJ1.out.r.size) (below_drewN (Below.refl w1.heap.size w1) m))); have c0 := hr.st.c0; have c1 := hr.st.c1; have c2' := hr.st.c2; clear hr hrp c1' f1') | go_quiet (fail) | (go_at_call 35; refine (rFail_new B c mb s D1 F1 _ (Nat.le_trans hBw (HDW.out _).r.size) j x (HDW.out _).r.st).mono ?_; rintro e w2 ⟨rfl, hr⟩; have HR2 := hide ((HDW.out _).r.trans hr); have c2'' := hr.st.c2; clear hr))
                go_ret2
                exact RP.bad HE.out ⟨A0, n, q0, kb, rfl, j, D1, F1, HR2.out⟩
              · have h01 : ¬ (nn : Int) = 0 := by omega
                have h02 : ((nn : Int) == 0) = false := by simpa using h00
                by_cases h6 : 60 < nn
                · have h6' : (60 : Int) < (nn : Int) := by omega
                  clear hc
                  go_wp2_with (first | (go_at_call 33; refine HPK.out.mono ?_; rintro e wp ⟨rfl, hrp⟩; have HJP := hide (HJ.out.adv stay_partU hrp); have c1' := hrp.st.c1; have f1' := hrp.st.f 1; clear hrp HPK) | (go_at_call 68; refine (HNU.out _ HJP.out.r).mono ?_; intro e w1 hrp; obtain ⟨rfl, hr⟩ := hrp.of_ok HND.out; have HJ1 := hide (HJP.out.adv stay_partU hr); have HDW := hide (fun m => HJ1.out.adv stay_partU ((rR.refl HJ1.out.r.st).below (Nat.le_trans hBw HJ1.out.r.size) (below_drewN (Below.refl w1.heap.size w1) m))); have c0 := hr.st.c0; have c1 := hr.st.c1; have c2' := hr.st.c2; clear hr hrp c1' f1') | go_quiet (fail) | (go_at_call 35; refine (rFail_new B c mb s D1 F1 _ (Nat.le_trans hBw (HDW.out _).r.size) j x (HDW.out _).r.st).mono ?_; rintro e w2 ⟨rfl, hr⟩; have HR2 := hide ((HDW.out _).r.trans hr); have c2'' := hr.st.c2; clear hr))
                  go_ret2
                  exact RP.bad HE.out ⟨A0, n, q0, kb, rfl, j, D1, F1, HR2.out⟩
                · have h6' : decide ((60 : Int) < (nn : Int)) = false := by simp; omega
                  have h6'' : decide (60 < nn) = false := by simp; omega
                  have h7 : (s.size : Int) - (j : Int) < (nn : Int) := by omega
                  clear hc
                  go_wp2_with (first | (go_at_call 33; refine HPK.out.mono ?_; rintro e wp ⟨rfl, hrp⟩; have HJP := hide (HJ.out.adv stay_partU hrp); have c1' := hrp.st.c1; have f1' := hrp.st.f 1; clear hrp HPK) | (go_at_call 68; refine (HNU.out _ HJP.out.r).mono ?_; intro e w1 hrp; obtain ⟨rfl, hr⟩ := hrp.of_ok HND.out; have HJ1 := hide (HJP.out.adv stay_partU hr); have HDW := hide (fun m => HJ1.out.adv stay_partU ((rR.refl HJ1.out.r.st).below (Nat.le_trans hBw HJ1.out.r.size) (below_drewN (Below.refl w1.heap.size w1) m))); have c0 := hr.st.c0; have c1 := hr.st.c1; have c2' := hr.st.c2; clear hr hrp c1' f1') | go_quiet (fail) | (go_at_call 35; refine (rFail_new B c mb s D1 F1 _ (Nat.le_trans hBw (HDW.out _).r.size) j x (HDW.out _).r.st).mono ?_; rintro e w2 ⟨rfl, hr⟩; have HR2 := hide ((HDW.out _).r.trans hr); have c2'' := hr.st.c2; clear hr))
                  go_ret2
                  exact RP.bad HE.out ⟨A0, n, q0, kb, rfl, j, D1, F1, HR2.out⟩
            · have HNC := hide hc
              have h00 : ¬ nn = 0 := fun e => hc (.inl e)
              have h01 : ¬ (nn : Int) = 0 := by omega
              have h02 : ((nn : Int) == 0) = false := by simpa using h00
              have h6' : decide ((60 : Int) < (nn : Int)) = false := by simp; omega
              have h6'' : decide (60 < nn) = false := by simp; omega
              have h7 : decide ((s.size : Int) - (j : Int) < (nn : Int)) = false := by simp; omega
              have hjn : j + nn ≤ s.size := by omega
              have hn60 : nn ≤ 60 := by omega
              clear hc
              go_wp2_with (first | (go_at_call 33; refine HPK.out.mono ?_; rintro e wp ⟨rfl, hrp⟩; have HJP := hide (HJ.out.adv stay_partU hrp); have c1' := hrp.st.c1; have f1' := hrp.st.f 1; clear hrp HPK) | (go_at_call 68; refine (HNU.out _ HJP.out.r).mono ?_; intro e w1 hrp; obtain ⟨rfl, hr⟩ := hrp.of_ok HND.out; have HJ1 := hide (HJP.out.adv stay_partU hr); have HDW := hide (fun m => HJ1.out.adv stay_partU ((rR.refl HJ1.out.r.st).below (Nat.le_trans hBw HJ1.out.r.size) (below_drewN (Below.refl w1.heap.size w1) m))); have c0 := hr.st.c0; have c1 := hr.st.c1; have c2' := hr.st.c2; clear hr hrp c1' f1') | go_quiet (fail))
              have HJq := hide (HDW.out nq)
              obtain ⟨w2, hw2⟩ : ∃ x, w1.drewN nq = x := ⟨_, rfl⟩
              rw [hw2] at HJq ⊢
              have c0 := HJq.out.r.st.c0
              have c1 := HJq.out.r.st.c1
              obtain ⟨z0, hz0⟩ : ∃ z, z = j + nn := ⟨_, rfl⟩
              have hz0s : z0 ≤ s.size := by omega
              have hjz : (j : Int) + (nn : Int) = (z0 : Int) := by omega
              have hwz : IntKind.i64.wrap (z0 : Int) = (z0 : Int) := by rw [IntKind.wrap_i64]; omega
              have hjz0 : j ≤ z0 := by omega
              have HZ0 := hide hz0
              clear hz0
              obtain ⟨xb, hxb⟩ : ∃ xb, s.extract j z0 = xb := ⟨_, rfl⟩
              have hxz : xb.size = nn := by rw [← hxb, ByteArray.size_extract]; have := HZ0.out; omega
              have hx60 : xb.size ≤ 60 := by omega
              have HXB := hide (show s.extract j (j + nn) = xb by rw [← HZ0.out]; exact hxb)
              have HW2 := hide hw2
              clear hw2
              refine wp_region_chain (fun W => W.cell? ⟨c, 0, none⟩ = some (.string s) ∧ W.cell? ⟨c, 1, none⟩ = some (.int .i64 (j : Nat))) 17 (by as_aux_lemma => kernel_rfl) (N := 18) (by as_aux_lemma => kernel_rfl) ?_; intro hsh
              have HS : w2.drew.cell? ⟨c, 0, none⟩ = some (.string s) ∧ w2.drew.cell? ⟨c, 1, none⟩ = some (.int .i64 (j : Nat)) := ⟨c0, c1⟩
              refine wpAnyC_take0 (i := 0) (k := 17) (v := ?_) (d := some 75) rfl (by rfl) (by as_aux_lemma => kernel_rfl) (by as_aux_lemma => kernel_rfl) (by as_aux_lemma => kernel_rfl) hsh (by decide) (by intro _ _ _ h; exact h) (by assumption) (Or.inl ⟨by rfl, ?hy⟩) ?_; (case hy => (intro W _; go_simp; (try with_reducible rfl))); clear hsh; intro hsh
              refine wpAnyC_take0 (i := 1) (k := 17) (v := ?_) (d := some 76) rfl (by rfl) (by as_aux_lemma => kernel_rfl) (by as_aux_lemma => kernel_rfl) (by as_aux_lemma => kernel_rfl) hsh (by decide) (by intro _ _ _ h; exact h) (by assumption) (Or.inl ⟨by rfl, ?hy⟩) ?_; (case hy => (intro W _; go_simp; (try with_reducible rfl))); clear hsh; intro hsh
              refine wpAnyC_take0 (i := 2) (k := 17) (v := ?_) (d := some 77) rfl (by rfl) (by as_aux_lemma => kernel_rfl) (by as_aux_lemma => kernel_rfl) (by as_aux_lemma => kernel_rfl) hsh (by decide) (by intro _ _ _ h; exact h) (by assumption) (Or.inl ⟨by rfl, ?hy⟩) ?_; (case hy => (intro W _; go_simp; (try with_reducible rfl))); clear hsh; intro hsh
              refine wpAnyC_take (i := 3) (k := 17) (f := 40) (v := ?_) (d := some 78) rfl (by rfl) (by as_aux_lemma => kernel_rfl) (by as_aux_lemma => kernel_rfl) (by as_aux_lemma => kernel_rfl) hsh (by decide) (by as_aux_lemma => kernel_rfl) (by intro _ _ _ h; exact h) (by assumption) (Or.inl ⟨by rfl, ?hy⟩) ?_; (case hy => (rintro W ⟨y0, y1⟩; go_simp; (try with_reducible rfl))); clear hsh; intro hsh
              refine wpAnyC_take0 (i := 4) (k := 17) (v := ?_) (d := some 79) rfl (by rfl) (by as_aux_lemma => kernel_rfl) (by as_aux_lemma => kernel_rfl) (by as_aux_lemma => kernel_rfl) hsh (by decide) (by intro _ _ _ h; exact h) (by assumption) (Or.inl ⟨by rfl, ?hy⟩) ?_; (case hy => (intro W _; go_simp; (try with_reducible rfl))); clear hsh; intro hsh
              refine wpAnyC_take0 (i := 5) (k := 17) (v := ?_) (d := some 80) rfl (by rfl) (by as_aux_lemma => kernel_rfl) (by as_aux_lemma => kernel_rfl) (by as_aux_lemma => kernel_rfl) hsh (by decide) (by intro _ _ _ h; exact h) (by assumption) (Or.inl ⟨by rfl, ?hy⟩) ?_; (case hy => (intro W _; go_simp; (try with_reducible rfl))); clear hsh; intro hsh
              refine wpAnyC_take0 (i := 6) (k := 17) (v := ?_) (d := some 81) rfl (by rfl) (by as_aux_lemma => kernel_rfl) (by as_aux_lemma => kernel_rfl) (by as_aux_lemma => kernel_rfl) hsh (by decide) (by intro _ _ _ h; exact h) (by assumption) (Or.inl ⟨by rfl, ?hy⟩) ?_; (case hy => (intro W _; go_simp; (try with_reducible rfl))); clear hsh; intro hsh
              refine wpAnyC_take (i := 7) (k := 17) (f := 40) (v := ?_) (d := some 82) rfl (by rfl) (by as_aux_lemma => kernel_rfl) (by as_aux_lemma => kernel_rfl) (by as_aux_lemma => kernel_rfl) hsh (by decide) (by as_aux_lemma => kernel_rfl) (by intro _ _ _ h; exact h) (by assumption) (Or.inl ⟨by rfl, ?hy⟩) ?_; (case hy => (rintro W ⟨y0, y1⟩; go_simp; (try with_reducible rfl))); clear hsh; intro hsh
              refine wpAnyC_take0 (i := 8) (k := 17) (v := ?_) (d := some 83) rfl (by rfl) (by as_aux_lemma => kernel_rfl) (by as_aux_lemma => kernel_rfl) (by as_aux_lemma => kernel_rfl) hsh (by decide) (by intro _ _ _ h; exact h) (by assumption) (Or.inl ⟨by rfl, ?hy⟩) ?_; (case hy => (intro W _; go_simp; (try with_reducible rfl))); clear hsh; intro hsh
              refine wpAnyC_take0 (i := 9) (k := 17) (v := ?_) (d := some 84) rfl (by rfl) (by as_aux_lemma => kernel_rfl) (by as_aux_lemma => kernel_rfl) (by as_aux_lemma => kernel_rfl) hsh (by decide) (by intro _ _ _ h; exact h) (by assumption) (Or.inl ⟨by rfl, ?hy⟩) ?_; (case hy => (intro W _; go_simp; (try with_reducible rfl))); clear hsh; intro hsh
              refine wpAnyC_take0 (i := 10) (k := 17) (v := ?_) (d := some 85) rfl (by rfl) (by as_aux_lemma => kernel_rfl) (by as_aux_lemma => kernel_rfl) (by as_aux_lemma => kernel_rfl) hsh (by decide) (by intro _ _ _ h; exact h) (by assumption) (Or.inl ⟨by rfl, ?hy⟩) ?_; (case hy => (intro W _; go_simp; (try with_reducible rfl))); clear hsh; intro hsh
              refine wpAnyC_take (i := 11) (k := 17) (f := 40) (v := ?_) (d := some 86) rfl (by rfl) (by as_aux_lemma => kernel_rfl) (by as_aux_lemma => kernel_rfl) (by as_aux_lemma => kernel_rfl) hsh (by decide) (by as_aux_lemma => kernel_rfl) (by intro _ _ _ h; exact h) (by assumption) (Or.inl ⟨by rfl, ?hy⟩) ?_; (case hy => (rintro W ⟨y0, y1⟩; go_simp; (try with_reducible rfl))); clear hsh; intro hsh
              refine wpAnyC_take0 (i := 12) (k := 17) (v := ?_) (d := some 87) rfl (by rfl) (by as_aux_lemma => kernel_rfl) (by as_aux_lemma => kernel_rfl) (by as_aux_lemma => kernel_rfl) hsh (by decide) (by intro _ _ _ h; exact h) (by assumption) (Or.inl ⟨by rfl, ?hy⟩) ?_; (case hy => (intro W _; go_simp; (try with_reducible rfl))); clear hsh; intro hsh
              refine wpAnyC_take0 (i := 13) (k := 17) (v := ?_) (d := some 88) rfl (by rfl) (by as_aux_lemma => kernel_rfl) (by as_aux_lemma => kernel_rfl) (by as_aux_lemma => kernel_rfl) hsh (by decide) (by intro _ _ _ h; exact h) (by assumption) (Or.inl ⟨by rfl, ?hy⟩) ?_; (case hy => (intro W _; go_simp; (try with_reducible rfl))); clear hsh; intro hsh
              refine wpAnyC_take0 (i := 14) (k := 17) (v := ?_) (d := some 89) rfl (by rfl) (by as_aux_lemma => kernel_rfl) (by as_aux_lemma => kernel_rfl) (by as_aux_lemma => kernel_rfl) hsh (by decide) (by intro _ _ _ h; exact h) (by assumption) (Or.inl ⟨by rfl, ?hy⟩) ?_; (case hy => (intro W _; go_simp; (try with_reducible rfl))); clear hsh; intro hsh
              refine wpAnyC_take0 (i := 15) (k := 17) (v := ?_) (d := some 90) rfl (by rfl) (by as_aux_lemma => kernel_rfl) (by as_aux_lemma => kernel_rfl) (by as_aux_lemma => kernel_rfl) hsh (by decide) (by intro _ _ _ h; exact h) (by assumption) (Or.inl ⟨by rfl, ?hy⟩) ?_; (case hy => (intro W _; go_simp; (try with_reducible rfl))); clear hsh; intro hsh
              refine wpAnyC_ready (rs := [16]) (by as_aux_lemma => kernel_rfl) (by simp) ?_; refine AllC.cons (i := 16) rfl (by as_aux_lemma => kernel_rfl) hsh (fun K hK => ?_) AllC.nil
              go_simp
              refine hK _ _ (fun _ => ⟨(HJq.out.adv stay_partU ((rR.refl HJq.out.r.st).below (Nat.le_trans hBw HJq.out.r.size) ((below_drewN (Below.refl w2.heap.size w2) 1).alloc (Nat.le_refl _) _))).r.st.c0, (HJq.out.adv stay_partU ((rR.refl HJq.out.r.st).below (Nat.le_trans hBw HJq.out.r.size) ((below_drewN (Below.refl w2.heap.size w2) 1).alloc (Nat.le_refl _) _))).r.st.c1⟩) ?_
              clear hK K hsh HS
              intro hsh
              refine wpAnyC_tail (by as_aux_lemma => kernel_rfl) (by simp) (by as_aux_lemma => kernel_rfl) ?_; simp only [List.drop_succ_cons, List.drop_zero]; clear hsh
              go_simp
              go_wp2_with (fail)
              have HNE := hide HJq.out.nw
              have hpb : w.heap.size ≤ w2.heap.size := HJq.out.r.size
              have hr2 := (rR.refl HJq.out.r.st).below (Nat.le_trans hBw hpb) (below_adR w2 (.cells #[.string xb, .slice none 0 0] 76))
              have HJ2 := hide (HJq.out.adv stay_partU hr2)
              have HB2 := hide (show rBk c mb (w2.alloc (.cells #[.string xb, .slice none 0 0] 76)).drew F1 w2.heap.size (.cells #[.string xb, .slice none 0 0] 76) from (rBk.new HJq.out.r.st (.cells #[.string xb, .slice none 0 0] 76)).step ((rR.refl (HJq.out.adv stay_partU ((rR.refl HJq.out.r.st).alloc (Nat.le_trans hBw hpb) (.cells #[.string xb, .slice none 0 0] 76))).r.st).drew (Nat.le_trans hBw (by simp; omega))))
              obtain ⟨pb, hpbe⟩ : ∃ x, w2.heap.size = x := ⟨_, rfl⟩
              rw [hpbe] at HB2 HNE hpb ⊢
              have nb0 : ¬ 9223372036854775807 < 1 + xb.size := by omega
              have nc0 : ¬ 9223372036854775807 < kb.size + (1 + xb.size) := by omega
              clear hr2 hpbe hxb HJq HW2 HDW hjz hwz hjz0 hz0s
              go_loopw [92] (fun yy wr => ∃ (k : Nat) (q : Int), yy = .int .i64 k ∧ k ≤ nn ∧ ((q = -1 ∧ ∀ m, m < k → ∀ d, s.data.toList[j + m]? = some d → okId m d = true) ∨ (∃ k0, k0 < k ∧ k0 < nn ∧ q = (j : Int) + (k0 : Int) ∧ idN s j nn = k0)) ∧ rJ B c mb s 76 2 PartU F w j q D1 F1 wr (.slice A0 n q0) n acc ∧ rBk c mb wr F1 pb (.cells #[.string xb, .slice none 0 0] 76)) (fun yy _ => nn - (intOf yy).toNat)
              case atStart => exact ⟨0, -1, rfl, Nat.zero_le _, .inl ⟨rfl, fun m h => by omega⟩, HJ2.out, HB2.out⟩
              case round =>
                obtain ⟨k, q, rfl, hk, hcase, hj3, hb3⟩ := hrel
                have c0 := hj3.r.st.c0
                have c1 := hj3.r.st.c1
                have c2 := hj3.r.st.c2
                have f1 := hj3.r.st.f 1
                have HDI := hide (fun m => hj3.adv stay_partU ((rR.refl hj3.r.st).below (Nat.le_trans hBw hj3.r.size) (below_drewN (Below.refl wr.heap.size wr) m)))
                have HDB := hide (fun m => hb3.step ((rR.refl hj3.r.st).below (Nat.le_trans hBw hj3.r.size) (below_drewN (Below.refl wr.heap.size wr) m)))
                have HJ3 := hide hj3
                have HB3 := hide hb3
                clear hj3 hb3
                by_cases hlt : k < nn
                · obtain ⟨y, hy⟩ : ∃ y, y = j + k := ⟨_, rfl⟩
                  have hjy : y < s.size := by omega
                  have hjx : (j : Int) + (k : Int) = (y : Int) := by omega
                  have HY := hide hy
                  clear hy
                  have hlt' : (k : Int) < (nn : Int) := by omega
                  rcases hcase with ⟨rfl, hall⟩ | ⟨k0, hk0, hk0n, hq, hid⟩
                  · have HALL := hide hall
                    clear hall
                    by_cases hk0 : k = 0
                    · subst hk0
                      obtain rfl : j = y := by have := HY.out; omega
                      clear hjx
                      have HL := hide (fun W => letter_ok0 s[j] W)
                      cases hv : okId 0 s[j]
                      · have HID := hide (show idN s j nn = 0 from idN_is (by omega) (by omega) (fun m h => by omega) (fun _ d h => by rw [okId_getD hjy d h]; exact hv))
                        rw [hv] at HL
                        clear hv
                        go_wp2_with (first | go_quiet (first | (go_at_call 69; exact Calls.quiet_of_same (HL.out _))) | (go_at_call 69; refine (HL.out _).mono ?_; rintro e w' ⟨rfl, rfl⟩) | (go_at_call 35; refine (rFail_new B c mb s D1 F1 _ (Nat.le_trans hBw (HDI.out _).r.size) j j (HDI.out _).r.st).mono ?_; rintro e w6 ⟨rfl, hr⟩; have HJ6 := hide ((HDI.out _).adv stay_partU hr); have HB6 := hide ((HDB.out _).step hr); clear hr))
                        go_roundw
                        case rel => exact ⟨0 + 1, j, by go_num, by omega, .inr ⟨0, by omega, hlt, by omega, HID.out⟩, HJ6.out, HB6.out⟩
                        case measure => simp [intOf]; omega
                      · have HK := hide (show ∀ d, s.data.toList[j + 0]? = some d → okId 0 d = true from fun d h => by rw [okId_getD hjy d h]; exact hv)
                        rw [hv] at HL
                        clear hv
                        go_wp2_with (first | go_quiet (first | (go_at_call 69; exact Calls.quiet_of_same (HL.out _))) | (go_at_call 69; refine (HL.out _).mono ?_; rintro e w' ⟨rfl, rfl⟩))
                        go_roundw
                        case rel => exact ⟨0 + 1, -1, by go_num, by omega, .inl ⟨rfl, fun m hm d hd => by (by_cases e : m = 0); (subst e; exact HK.out d hd); exact HALL.out m (by omega) d hd⟩, HDI.out _, HDB.out _⟩
                        case measure => simp [intOf]; omega
                    · have hk1 : ¬ (k : Int) = 0 := by omega
                      have hk1' : ((k : Int) == 0) = false := by simp; omega
                      have HL := hide (fun W => letter_okS s[y] (k := k) (by omega) W)
                      cases hv : okId k s[y]
                      · have HID := hide (show idN s j nn = k from idN_is (by omega) (by omega) HALL.out (fun _ d h => by rw [okId_getD hjy d (by rw [HY.out]; exact h)]; exact hv))
                        rw [hv] at HL
                        clear hv
                        go_wp2_with (first | go_quiet (first | (go_at_call 69; exact Calls.quiet_of_same (HL.out _))) | (go_at_call 69; refine (HL.out _).mono ?_; rintro e w' ⟨rfl, rfl⟩) | (go_at_call 35; refine (rFail_new B c mb s D1 F1 _ (Nat.le_trans hBw (HDI.out _).r.size) j y (HDI.out _).r.st).mono ?_; rintro e w6 ⟨rfl, hr⟩; have HJ6 := hide ((HDI.out _).adv stay_partU hr); have HB6 := hide ((HDB.out _).step hr); clear hr))
                        go_roundw
                        case rel => exact ⟨k + 1, y, by go_num, by omega, .inr ⟨k, by omega, hlt, by omega, HID.out⟩, HJ6.out, HB6.out⟩
                        case measure => simp [intOf]; omega
                      · have HK := hide (show ∀ d, s.data.toList[j + k]? = some d → okId k d = true from fun d h => by rw [okId_getD hjy d (by rw [HY.out]; exact h)]; exact hv)
                        rw [hv] at HL
                        clear hv
                        go_wp2_with (first | go_quiet (first | (go_at_call 69; exact Calls.quiet_of_same (HL.out _))) | (go_at_call 69; refine (HL.out _).mono ?_; rintro e w' ⟨rfl, rfl⟩))
                        go_roundw
                        case rel => exact ⟨k + 1, -1, by go_num, by omega, .inl ⟨rfl, fun m hm d hd => by (by_cases e : m = k); (subst e; exact HK.out d hd); exact HALL.out m (by omega) d hd⟩, HDI.out _, HDB.out _⟩
                        case measure => simp [intOf]; omega
                  · have hk1 : ¬ (k : Int) = 0 := by omega
                    have hk1' : ((k : Int) == 0) = false := by simp; omega
                    have HL := hide (fun W => letter_okS s[y] (k := k) (by omega) W)
                    have HQQ := hide hq
                    have HQI := hide hid
                    have hq0 : 0 ≤ q := by omega
                    clear hq hid
                    cases hv : okId k s[y]
                    · rw [hv] at HL
                      clear hv
                      go_wp2_with (first | go_quiet (first | (go_at_call 69; exact Calls.quiet_of_same (HL.out _))) | (go_at_call 69; refine (HL.out _).mono ?_; rintro e w' ⟨rfl, rfl⟩) | (go_at_call 35; refine (rFail_old B c mb s D1 F1 _ (Nat.le_trans hBw (HDI.out _).r.size) j q y hq0 (HDI.out _).r.st).mono ?_; rintro e w6 ⟨rfl, hr⟩; have HJ6 := hide ((HDI.out _).adv stay_partU hr); have HB6 := hide ((HDB.out _).step hr); clear hr))
                      go_roundw
                      case rel => exact ⟨k + 1, q, by go_num, by omega, .inr ⟨k0, by omega, hk0n, HQQ.out, HQI.out⟩, HJ6.out, HB6.out⟩
                      case measure => simp [intOf]; omega
                    · rw [hv] at HL
                      clear hv
                      go_wp2_with (first | go_quiet (first | (go_at_call 69; exact Calls.quiet_of_same (HL.out _))) | (go_at_call 69; refine (HL.out _).mono ?_; rintro e w' ⟨rfl, rfl⟩))
                      go_roundw
                      case rel => exact ⟨k + 1, q, by go_num, by omega, .inr ⟨k0, by omega, hk0n, HQQ.out, HQI.out⟩, HDI.out _, HDB.out _⟩
                      case measure => simp [intOf]; omega
                · obtain rfl : k = nn := by omega
                  have hlt' : decide ((k : Int) < (k : Int)) = false := by simp
                  rcases hcase with ⟨rfl, hall⟩ | ⟨k0, hk0, hk0n, hq, hid⟩
                  · have HALL := hide hall
                    clear hall
                    have HIDN := hide (idN_is (by omega) (Nat.le_refl _) HALL.out (fun h => by omega))
                    have HDI2 := hide (show dId s x = .ok (j + k) xb by rw [dId_fine HND.out HNC.out HIDN.out, HXB.out])
                    obtain ⟨z, hz⟩ : ∃ z, z = j + k := ⟨_, rfl⟩
                    have hzj : (j : Int) + (k : Int) = (z : Int) := by omega
                    have HZ := hide hz
                    rw [← hz] at HDI2
                    have hzs : z ≤ s.size := by omega
                    have hzx : x + 1 + k ≤ z := by omega
                    clear hz
                    have HJ4 := hide (HJ3.out.adv stay_partU ((rR.refl HJ3.out.r.st).set1 (Nat.le_trans hBw HJ3.out.r.size) (z : Int)))
                    have HB4 := hide (HB3.out.step ((rR.refl HJ3.out.r.st).set1 (Nat.le_trans hBw HJ3.out.r.size) (z : Int)))
                    have m0 := block_cell HB4.out.1 0
                    have m1 := block_cell HB4.out.1 1
                    have HPJ := hide (rPeek B c mb s D1 F1 _ (Nat.le_trans hBw HJ4.out.r.size) z hs HJ4.out.r.st)
                    by_cases hI : s.data.toList[z]? = some 73
                    · have hp73 : ((pkB s z).toNat : Int) = 73 := by rw [pkB_is hI]; rfl
                      have hyl := get_lt hI
                      have HTC := hide (fun (W : World) (h : rR B c mb s ((z + 1 : Nat) : Int) (-1) D1 F F1 w W) => HTYS.out B c mb D1 F1 (z + 1) d W (Nat.le_trans hBw h.size) hs hyl (by omega) HDD.out h.st)
                      cases ht : dTys s (dOne s f) (s.size + 1) [] [] D1 (z + 1) with
                      | bad e0 =>
                        have HE := hide (HR.out.symm.trans (dParts_in hno HDI2.out hI ht))
                        have HTD := hide ht
                        clear hI ht
                        go_wp2_with (first | (go_at_call 33; refine HPJ.out.mono ?_; rintro e w6 ⟨rfl, hr⟩; have HJ5 := hide (HJ4.out.adv stay_partU hr); have HB5 := hide (HB4.out.step hr); have m0' := block_cell HB5.out.1 0; have m1' := block_cell HB5.out.1 1; have g1' := hr.st.c1; have gf1' := hr.st.f 1; have HJ6 := hide (show rJ B c mb s 76 2 PartU F w ((z + 1 : Nat) : Int) (-1) D1 F1 (w6.setCell ⟨c, 1, none⟩ (.int .i64 ((z : Int) + 1))) (.slice A0 n q0) n acc from by rw [show ((z + 1 : Nat) : Int) = (z : Int) + 1 by omega]; exact HJ5.out.adv stay_partU ((rR.refl HJ5.out.r.st).set1 (Nat.le_trans hBw HJ5.out.r.size) _)); have HB6 := hide (HB5.out.step ((rR.refl HJ5.out.r.st).set1 (Nat.le_trans hBw HJ5.out.r.size) ((z : Int) + 1))); clear hr HPJ m0 m1) | (go_at_call 70; refine (HTC.out _ HJ6.out.r).mono ?_; intro e w7 hrp; obtain ⟨A5, n5, q5, tb, rfl, htz, y5, D5, F5, hr5⟩ := hrp.of_bad HTD.out; have HJ7 := hide (HJ6.out.adv stay_partU hr5); have HB7 := hide (HB6.out.step hr5); have f1'' := block_free HB7.out.1 1; have p0'' := block_cell HB7.out.1 0; have p1'' := block_cell HB7.out.1 1; have HJ9 := hide (HJ7.out.other stay_partU hBw hpb HB7.out.2 HNE.out (.slice A5 n5 q5) (k := 1)); have HB9 := hide (HB7.out.set (k := 1) HJ7.out.r.st (.slice A5 n5 q5)); have m0'' := block_cell HB9.out.1 0; have m1'' := block_cell HB9.out.1 1; simp at m0'' m1''; have nb1 : ¬ 9223372036854775807 < 1 + tb.size := (by omega); have nb2 : ¬ 9223372036854775807 < 1 + tb.size + 1 := (by omega); have nb3 : ¬ 9223372036854775807 < kb.size + (1 + xb.size) + (1 + tb.size + 1) := (by omega); clear hr5 hrp) | (at_builtin; refine wpList_append_own_at _ rfl (.tmp 154) (.tmp 156) 22 rfl w.heap.size 76 i0 (.agg #[.string ⟨#[]⟩, .slice none 0 0]) 2 40 Tryd.underlying22 hi0 iz0 iz1 iz2 rfl (by decide) _ n _ rfl (HJ9.out.l.own.choose_spec.1.alloc _) ⟨w7.heap.size, 0, none⟩ 1 1 [.string xb, .slice A5 n5 q5] rfl rfl (cells_new3R w7 ⟨pb, 1, none⟩ (.slice A5 n5 q5) [.string xb, .slice A5 n5 q5] _) (by intro u hu; simp at hu; rcases hu with rfl | rfl <;> rfl) (by unfold maxLen; omega) (by omega) (by have := HJ9.out.r.size; simp at this ⊢; omega) ?_; intro v2 w8 hown2 hg2 _ hv2; obtain ⟨ao, cp, rfl⟩ := own_sl hown2; have HR8 := hide (HJ9.out.grow hBw (Below.alloc (Below.refl _ _) (Nat.le_refl _) _) hg2); clear hown2 hg2 hv2))
                        go_roundw
                        case rel => exact .inr ⟨ao, _, cp, e0, y5, D5, F5, _, rfl, rfl, HE.out, HR8.out⟩
                        case measure => rw [HMS.out, msR_off (by omega) HR8.out.st]; omega
                      | ok kk zz =>
                        have HE := hide ((dParts_go hno HDI2.out hI ht).symm.trans HR.out)
                        have hgo := HXT.out (z + 1) kk zz hyl ht
                        have HTD := hide ht
                        clear hI ht
                        obtain ⟨tl, ids, D2⟩ := zz
                        have hky := hgo.lt
                        have hks := hgo.le
                        have hkl := hgo.ext.len
                        have hpos := hgo.pos
                        simp only at hkl hpos
                        go_wp2_with (first | (go_at_call 33; refine HPJ.out.mono ?_; rintro e w6 ⟨rfl, hr⟩; have HJ5 := hide (HJ4.out.adv stay_partU hr); have HB5 := hide (HB4.out.step hr); have m0' := block_cell HB5.out.1 0; have m1' := block_cell HB5.out.1 1; have g1' := hr.st.c1; have gf1' := hr.st.f 1; have HJ6 := hide (show rJ B c mb s 76 2 PartU F w ((z + 1 : Nat) : Int) (-1) D1 F1 (w6.setCell ⟨c, 1, none⟩ (.int .i64 ((z : Int) + 1))) (.slice A0 n q0) n acc from by rw [show ((z + 1 : Nat) : Int) = (z : Int) + 1 by omega]; exact HJ5.out.adv stay_partU ((rR.refl HJ5.out.r.st).set1 (Nat.le_trans hBw HJ5.out.r.size) _)); have HB6 := hide (HB5.out.step ((rR.refl HJ5.out.r.st).set1 (Nat.le_trans hBw HJ5.out.r.size) ((z : Int) + 1))); clear hr HPJ m0 m1) | (go_at_call 70; refine (HTC.out _ HJ6.out.r).mono ?_; intro e w7 hrp; obtain ⟨F5, A5, n5, q5, tb, rfl, htb, htz, hnq, hqm, hsl, hr5⟩ := hrp.of_ok HTD.out; have HJ7 := hide (HJ6.out.adv stay_partU hr5); have HB7 := hide (HB6.out.step hr5); have f1'' := block_free HB7.out.1 1; have p0'' := block_cell HB7.out.1 0; have p1'' := block_cell HB7.out.1 1; have HJ9 := hide (HJ7.out.other stay_partU hBw hpb HB7.out.2 HNE.out (.slice A5 n5 q5) (k := 1)); have HB9 := hide (HB7.out.set (k := 1) HJ7.out.r.st (.slice A5 n5 q5)); have m0'' := block_cell HB9.out.1 0; have m1'' := block_cell HB9.out.1 1; simp at m0'' m1''; have nb1 : ¬ 9223372036854775807 < 1 + tb.size := (by omega); have nb2 : ¬ 9223372036854775807 < 1 + tb.size + 1 := (by omega); have nb3 : ¬ 9223372036854775807 < kb.size + (1 + xb.size) + (1 + tb.size + 1) := (by omega); have HSTY := stay_ownR (k := 1) (x := .slice A5 n5 q5) HB7.out.2; have HTS6 := hide (hsl.stay (S' := F5) (R' := TyU (w7.setCell ⟨pb, 1, none⟩ (.slice A5 n5 q5)) F5) HSTY (fun _ h _ => h) (fun a _ cs h => stay_tyU _ _ _ _ a cs h HSTY (fun _ h _ => h))); have HTB5 := hide htb; clear hsl htb HSTY; clear hr5 hrp) | (at_builtin; refine wpList_append_own_at _ rfl (.tmp 154) (.tmp 156) 22 rfl w.heap.size 76 i0 (.agg #[.string ⟨#[]⟩, .slice none 0 0]) 2 40 Tryd.underlying22 hi0 iz0 iz1 iz2 rfl (by decide) _ n _ rfl (HJ9.out.l.own.choose_spec.1.alloc _) ⟨w7.heap.size, 0, none⟩ 1 1 [.string xb, .slice A5 n5 q5] rfl rfl (cells_new3R w7 ⟨pb, 1, none⟩ (.slice A5 n5 q5) [.string xb, .slice A5 n5 q5] _) (by intro u hu; simp at hu; rcases hu with rfl | rfl <;> rfl) (by unfold maxLen; omega) (by omega) (by have := HJ9.out.r.size; simp at this ⊢; omega) ?_; intro v2 w8 hown2 hg2 _ hv2; obtain ⟨ao, cp, rfl⟩ := own_sl hown2; have HJ8 := hide (HJ9.out.push stay_partU hBw rfl (part_go xb hx60 hnq hqm HTS6.out) (Below.alloc (Below.refl _ _) (Nat.le_refl _) _) hown2 hg2 hv2); clear hown2 hg2 hv2))
                        go_roundw
                        case rel => exact .inl ⟨n + 1, g, kk, acc ++ [(xb, tl)], sh ++ [(xb, ids)], D2, F5, kb ++ (⟨#[46]⟩ ++ xb) ++ (⟨#[60]⟩ ++ tb ++ ⟨#[62]⟩), rfl, by rw [app_toList, app_toList, app_toList, app_toList, app_toList, HKB.out, HTB5.out, rParts_snoc, pBody_some hpos]; simp, by simp only [ByteArray.size_append]; show kb.size + (1 + xb.size) + (1 + tb.size + 1) + 5 * i ≤ 5 * kk; omega, HJ8.out, hks, by omega, by omega, by omega, HE.out⟩
                        case measure => rw [HMS.out, msR_on HJ8.out.r.st]; omega
                    · have HE := hide ((dParts_no hno HDI2.out hI).symm.trans HR.out)
                      have hne2 := pk_ne (by decide) hI
                      have hne2' : (((pkB s z).toNat : Int) == 73) = false := by simpa using hne2
                      clear hI
                      go_wp2_with (first | (go_at_call 33; refine HPJ.out.mono ?_; rintro e w6 ⟨rfl, hr⟩; have HJ5 := hide (HJ4.out.adv stay_partU hr); have HB5 := hide (HB4.out.step hr); have m0' := block_cell HB5.out.1 0; have m1' := block_cell HB5.out.1 1; have g1' := hr.st.c1; have gf1' := hr.st.f 1; clear hr HPJ m0 m1) | (at_builtin; refine wpList_append_own_at _ rfl (.tmp 154) (.tmp 156) 22 rfl w.heap.size 76 i0 (.agg #[.string ⟨#[]⟩, .slice none 0 0]) 2 40 Tryd.underlying22 hi0 iz0 iz1 iz2 rfl (by decide) _ n _ rfl (HJ5.out.l.own.choose_spec.1.alloc _) ⟨w6.heap.size, 0, none⟩ 1 1 [.string xb, .slice none 0 0] rfl rfl (cells_new w6 [.string xb, .slice none 0 0] _) (by intro u hu; simp at hu; rcases hu with rfl | rfl <;> rfl) (by unfold maxLen; omega) (by omega) (by have := HJ5.out.r.size; simp at this ⊢; omega) ?_; intro v2 w8 hown2 hg2 _ hv2; obtain ⟨ao, cp, rfl⟩ := own_sl hown2; have HJ8 := hide (HJ5.out.push stay_partU hBw rfl (part_no xb hx60) (Below.alloc (Below.refl _ _) (Nat.le_refl _) _) hown2 hg2 hv2); clear hown2 hg2 hv2))
                      go_roundw
                      case rel => exact .inl ⟨n + 1, g, z, acc ++ [(xb, [])], sh ++ [(xb, [])], D1, F1, kb ++ (⟨#[46]⟩ ++ xb), rfl, by rw [app_toList, app_toList, HKB.out, rParts_snoc, pBody_nil]; simp, by rw [ByteArray.size_append, ByteArray.size_append]; show kb.size + (1 + xb.size) + 5 * i ≤ 5 * z; omega, HJ8.out, hzs, by omega, by omega, by omega, HE.out⟩
                      case measure => rw [HMS.out, msR_on HJ8.out.r.st]; omega
                  · have hnk : ¬ k < k0 := by omega
                    have HE := hide (HR.out.symm.trans (dParts_bad hno (dId_chr HND.out HNC.out hid (by omega))))
                    have HJ4 := hide (HJ3.out.adv stay_partU ((rR.refl HJ3.out.r.st).set1 (Nat.le_trans hBw HJ3.out.r.size) ((j : Int) + (k : Int))))
                    have HB4 := hide (HB3.out.step ((rR.refl HJ3.out.r.st).set1 (Nat.le_trans hBw HJ3.out.r.size) ((j : Int) + (k : Int))))
                    have m0 := block_cell HB4.out.1 0
                    have m1 := block_cell HB4.out.1 1
                    have HPJ := hide (rPeek_off B c mb s D1 F1 _ (Nat.le_trans hBw HJ4.out.r.size) ((j : Int) + (k : Int)) q (by omega) HJ4.out.r.st)
                    have HQE := hide (show q = ((j + k0 : Nat) : Int) by omega)
                    have hq0 : 0 ≤ q := by omega
                    clear hid hq
                    go_wp2_with (first | (go_at_call 33; refine HPJ.out.mono ?_; rintro e w6 ⟨rfl, hr⟩; have HJ5 := hide (HJ4.out.adv stay_partU hr); have HB5 := hide (HB4.out.step hr); have m0' := block_cell HB5.out.1 0; have m1' := block_cell HB5.out.1 1; clear hr HPJ m0 m1) | (at_builtin; refine wpList_append_own_at _ rfl (.tmp 154) (.tmp 156) 22 rfl w.heap.size 76 i0 (.agg #[.string ⟨#[]⟩, .slice none 0 0]) 2 40 Tryd.underlying22 hi0 iz0 iz1 iz2 rfl (by decide) _ n _ rfl (HJ5.out.l.own.choose_spec.1.alloc _) ⟨w6.heap.size, 0, none⟩ 1 1 [.string xb, .slice none 0 0] rfl rfl (cells_new w6 [.string xb, .slice none 0 0] _) (by intro u hu; simp at hu; rcases hu with rfl | rfl <;> rfl) (by unfold maxLen; omega) (by omega) (by have := HJ5.out.r.size; simp at this ⊢; omega) ?_; intro v2 w8 hown2 hg2 _ hv2; obtain ⟨ao, cp, rfl⟩ := own_sl hown2; have HR8 := hide (HJ5.out.grow hBw (Below.alloc (Below.refl _ _) (Nat.le_refl _) _) hg2); clear hown2 hg2 hv2))
                    go_roundw
                    case rel => exact .inr ⟨ao, _, cp, j + k0, _, D1, F1, _, rfl, rfl, HE.out, by rw [← HQE.out]; exact HR8.out⟩
                    case measure => rw [HMS.out, msR_off hq0 HR8.out.st]; omega
      · have c2 := hp.st.c2
        have HQ := hide hp
        have HR := hide hR
        clear hp hR
        have hoff : decide (((e : Nat) : Int) < 0) = false := by simp
        go_wp2_with (fail)
        go_ret2
        exact RP.bad HR.out ⟨A, n, q, kb, rfl, x, D1, F1, HQ.out⟩
  · have HE := hide (show dName s (dOne s f) D i = .bad i by rw [dName, if_neg hN])
    have HTN := hide (rTake_bad B c mb s D F w hBw i 78 hs hi hN h)
    clear h hN
    go_enter Tryd.func32, Tryd.ntmps32
    go_wp2_with (first | (go_at_call 31; refine HTN.out.mono ?_; rintro e w0 ⟨rfl, y, hy, hr⟩; have HR0 := hide hr; clear hr))
    go_loopw [6, 7] (fun vrow vk wr => vrow = .slice none 0 0 ∧ vk = .string ⟨#[]⟩ ∧ wr = w0) (fun _ _ _ => 0)
    case atStart => exact ⟨rfl, rfl, rfl⟩
    case round =>
      obtain ⟨rfl, rfl, rfl⟩ := hrel
      have c2 := HR0.out.st.c2
      have hi8 : decide ((i : Int) < 0) = false := by simp
      go_wp2_with (fail)
      go_ret2
      exact RP.bad HE.out ⟨none, 0, 0, ⟨#[]⟩, rfl, y, D, F, HR0.out⟩
end Go.Proofs.YtecancnojdifaaaDoor
