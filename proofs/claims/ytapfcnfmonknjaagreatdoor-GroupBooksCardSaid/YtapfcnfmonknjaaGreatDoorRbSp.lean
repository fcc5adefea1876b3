/- The reference's book: Split. -/
import Derived.Test.YtapfcnfmonknjaaGreatDoorRbMe
import Derived.Test.YtapfcnfmonknjaaGreatDoorBkSp
namespace Go.Proofs.YtapfcnfmonknjaaGreatDoor.Bk
open Go.RowKit Go.Maps Go.Sort
set_option linter.unusedVariables false
set_option linter.unusedSimpArgs false
theorem RM.boxL {B q : Nat} {lv : Value} {given : Int} {sv : Value} {lr : List Pr} {w w' : World} (h : RM B w q lv given sv lr) (given' : Int) (hbox : w'.heap[q]? = some (.cells #[lv, .int .i64 given', sv] 29 (0, 0))) (hk : ∀ k o, RK q lv k → k ≠ q → w.heap[k]? = some o → w'.heap[k]? = some o) : RM B w' q lv given' sv lr := h.box2 given' sv hbox hk
set_option maxRecDepth 100000 in
set_option maxHeartbeats 16000000 in
theorem RSplit_any {B q : Nat} {last : Int} {lv sv : Value} {l : List Pr} {ss : List Stp} {w : World} (h : RS B w q lv last sv l ss) (hu : Up l) (hl : l.length ≤ 1000) (hla : 0 ≤ last ∧ last ≤ 100000) (a : Int)
    (A : Option Addr) (n c : Nat) (ps : List (List UInt8)) (hs : Sl w w.heap.size se 1 A n ps) (hn : n ≤ maxLen) (hsz : ∀ s ∈ ps, s.length ≤ maxLen) (hsep : 0 < n → ∀ b o, A = some ⟨b, o, none⟩ → ¬ RK q lv b ∧ sv.ownBlock ≠ some b) (hss : ss.length < 400) (hBz : B ≤ w.heap.size) :
    Calls Tryz.prog 10 #[.pointer (some ⟨q, 0, none⟩), .int .i64 a, .slice A n c] w fun e w' => ∃ z x : Int, e = .returned (.tuple #[.int .i64 z, .int .i64 x]) ∧ ((x ≠ 0 ∧ Below w.heap.size w w' ∧ z = 0 ∧ x = spE (prs a l) ps) ∨ (x = 0 ∧ (∀ s ∈ ps, ∃ r ∈ l, r.g = a ∧ r.p = s) ∧ (0 < ps.length ∧ ps.length ≤ 1000) ∧ z = last + 1 ∧ spE (prs a l) ps = 0 ∧
      ∃ sv' st, RS B w' q lv (last + 1) sv' (mvL ps (last + 1) l) (ss ++ [st]) ∧ st.kind = 2 ∧ st.a = a ∧ st.b = last + 1 ∧ st.ps = ps ∧ Keep B (RSB q lv sv ss) w w' ∧ (∀ k, RSB q lv sv' (ss ++ [st]) k → RSB q lv sv ss k ∨ w.heap.size ≤ k))) := by
  unfold maxLen at hn
  obtain ⟨i0, hi0, iz0, iz1, iz2⟩ := info_parts info_step
  have HH := hide h
  obtain ⟨na, hna⟩ : ∃ n, (prs a l).length = n := ⟨_, rfl⟩
  have HNA := hide hna
  have CP := hide (RPrintsOf_n h.rm hu hl a na hna)
  have hna1 : na ≤ 1000 := by have := prs_len a l; omega
  have HS := hide hs
  have HSZ := hide hsz
  have HSEP := hide hsep
  have hnl : ps.length = n := hs.len
  have HNL := hide hnl
  obtain ⟨SA, sc, rfl⟩ := own_sl h.row
  have HMEM := hide (show ∀ s, s ∈ prs a l ↔ ∃ r ∈ l, r.g = a ∧ r.p = s from fun s => mem_prs)
  obtain ⟨all, hall⟩ : ∃ all, prs a l = all := ⟨_, rfl⟩
  rw [hall] at CP HNA HMEM
  rw [hall]
  clear hs hsz hsep h hna hall hnl
  by_cases hn0 : na = 0
  · subst hn0
    have HE := hide (show (7 : Int) = spE all ps by rw [spE, if_pos (.inl (List.length_eq_zero_iff.1 HNA.out))])
    clear HNA
    go_enter Tryz.func10, Tryz.ntmps10
    go_wp2_with (go_at_call 33; refine CP.out.mono ?_; rintro e w1 ⟨A1, c1, rfl, hr, hw1⟩)
    refine bodyPost_ret (by simp [results, Tryz.results10, go_sem]; try rfl) rfl ?_
    exact ⟨_, _, rfl, .inl ⟨by decide, hw1, rfl, HE.out⟩⟩
  · have HA0 := hide (show all ≠ [] from fun e => hn0 (by rw [← HNA.out, e]; rfl))
    have hna0 : ((na : Int) == 0) = false := beq_eq_false_iff_ne.2 (by omega)
    by_cases hnn : n = 0
    · subst hnn
      have HE := hide (show (7 : Int) = spE all ps by rw [spE, if_pos (.inr (List.length_eq_zero_iff.1 HNL.out))])
      go_enter Tryz.func10, Tryz.ntmps10
      go_wp2_with (go_at_call 33; refine CP.out.mono ?_; rintro e w1 ⟨A1, c1, rfl, hr, hw1⟩)
      refine bodyPost_ret (by simp [results, Tryz.results10, go_sem]; try rfl) rfl ?_
      exact ⟨_, _, rfl, .inl ⟨by decide, hw1, rfl, HE.out⟩⟩
    · have HP0 := hide (show ps ≠ [] from fun e => hnn (by rw [← HNL.out, e]; rfl))
      have hn1 : ((n : Int) == 0) = false := beq_eq_false_iff_ne.2 (by omega)
      go_enter Tryz.func10, Tryz.ntmps10
      go_wp2_with (go_at_call 33; refine CP.out.mono ?_; rintro e w1 ⟨A1, c1, rfl, hr, hw1⟩; have HR := hide hr; have HB1 := hide hw1; have hz1 := hw1.size; clear hr hw1)
      go_loopw [24] (fun ti wr => ∃ j : Nat, j ≤ n ∧ ti = .int .i64 (j : Int) ∧ (∀ s ∈ ps.take j, s ∈ all) ∧ (ps.take j).Pairwise (· < ·) ∧ Below w1.heap.size w1 wr) (fun ti _ => n - (intOf ti).toNat)
      case atStart => exact ⟨0, Nat.zero_le _, rfl, by simp, by simp, Below.refl _ _⟩
      case round =>
        obtain ⟨j, hj, rfl, hin, hpw, hB⟩ := hrel
        have HBW := hide (HB1.out.trans (hB.mono hz1))
        have HRW := hide (own_below HR.out hB)
        have HB := hide hB
        have hzr := hB.size
        clear hB
        by_cases hjn : j < n
        · obtain ⟨bb, oo, x, hA, hbb, hx, hc⟩ := (HS.out.below HBW.out).at_ hjn
          have d0 : wr.cell? ⟨bb, oo + j, none⟩ = some (encStr x) := by simpa [se] using hc 0 _ rfl
          have hjn' : (j : Int) < (n : Int) := by omega
          have hprev : 0 < j → ∃ y, (ps.take j)[j - 1]? = some y ∧ ps[j - 1]? = some y ∧ wr.cell? ⟨bb, oo + (j - 1), none⟩ = some (encStr y) := fun h0 => by
            obtain ⟨bb2, oo2, y, hA2, _, hy, hcy⟩ := (HS.out.below HBW.out).at_ (show j - 1 < n by omega)
            rw [hA] at hA2
            cases hA2
            exact ⟨y, by rw [List.getElem?_take, if_pos (by omega)]; exact hy, hy, by simpa [se] using hcy 0 _ rfl⟩
          have HX := hide hx
          clear hc hx
          subst hA
          unfold encStr at d0
          have CF := hide (RContains A1 na c1 all x wr (rowS HRW.out HNA.out) (by omega))
          by_cases hxin : x ∈ all
          · have HIN := hide (show ∀ s ∈ ps.take (j + 1), s ∈ all by
              rw [take_succ_get HX.out]
              intro s hs
              rcases List.mem_append.1 hs with hs | hs
              · exact hin s hs
              · rw [List.mem_singleton.1 hs]; exact hxin)
            have HLO := hide (fun (h0 : 0 < j) (y : List UInt8) (hy : ps[j - 1]? = some y) (hle : y ≥ x) => (spE_loop HA0.out HP0.out (loop_order HX.out hin hpw hxin h0 hy hle) (by decide)).symm)
            rw [decide_eq_true hxin] at CF
            clear hin hxin
            by_cases hj0 : 0 < j
            · obtain ⟨y, hy1, hy2, hy⟩ := hprev hj0
              have hj1 : 0 < (j : Int) := by omega
              have hcast : ((j : Int) - 1) = ((j - 1 : Nat) : Int) := by omega
              have hcast2 : ((j : Int) - 1).toNat = j - 1 := by omega
              unfold encStr at hy
              go_wp2_with (first | (go_at_call 38; refine CF.out.mono ?_; rintro e w1 ⟨rfl, rfl⟩) | go_quiet (fail) | go_region)
              · refine bodyPost_ret (by simp [results, Tryz.results10, go_sem]; try rfl) rfl ?_
                rename_i hlt2
                refine ⟨_, _, rfl, .inl ⟨by decide, HBW.out, rfl, ?_⟩⟩
                refine HLO.out hj0 y hy2 ?_
                rcases hlt2 with q1 | q1
                · rw [bytesLess_eq] at q1
                  exact List.le_of_lt (of_decide_eq_true q1)
                · rw [show x = y by simpa using q1]
                  exact List.le_refl _
              · rename_i hlt2
                have hyx : y < x := by
                  obtain ⟨q1, q2⟩ := hlt2
                  rw [bytesLess_eq] at q1
                  have q3 := of_decide_eq_false q1
                  have q4 : x ≠ y := by simpa using q2
                  rcases List.le_total x y with h | h
                  · exact absurd (List.le_antisymm h (List.not_lt.1 q3)) q4
                  · exact List.not_le.1 fun h9 => q4 (List.le_antisymm h9 h)
                have HPW := hide (show (ps.take (j + 1)).Pairwise (· < ·) by
                  rw [take_succ_get HX.out, List.pairwise_append]
                  refine ⟨hpw, by simp, fun s hs t ht => ?_⟩
                  rw [List.mem_singleton.1 ht]
                  obtain ⟨i, hi, e⟩ := List.mem_iff_getElem.1 hs
                  by_cases h9 : i = j - 1
                  · subst h9
                    rw [List.getElem?_eq_getElem hi] at hy1
                    rw [← e, Option.some.inj hy1]
                    exact hyx
                  · rw [List.length_take] at hi
                    have hl2 : j - 1 < (ps.take j).length := (List.getElem?_eq_some_iff.1 hy1).1
                    have h8 := List.pairwise_iff_getElem.1 hpw i (j - 1) (by rw [List.length_take]; exact hi) hl2 (by omega)
                    rw [List.getElem?_eq_getElem hl2] at hy1
                    rw [Option.some.inj hy1, e] at h8
                    exact List.lt_trans h8 hyx)
                go_roundw
                case rel => exact ⟨j + 1, by omega, by go_num, HIN.out, HPW.out, HB.out⟩
                case measure => simp [intOf]; omega
            · have hj00 : j = 0 := by omega
              subst hj00
              rw [Nat.add_zero] at d0
              have HPW := hide (show (ps.take (0 + 1)).Pairwise (· < ·) by rw [take_succ_get HX.out, List.take_zero]; simp)
              go_wp2_with (first | (go_at_call 38; refine CF.out.mono ?_; rintro e w1 ⟨rfl, rfl⟩) | go_quiet (fail) | go_region)
              go_roundw
              case rel => exact ⟨0 + 1, by omega, by go_num, HIN.out, HPW.out, HB.out⟩
              case measure => simp [intOf]; omega
          · have HE := hide (show (7 : Int) = spE all ps from (spE_loop HA0.out HP0.out (loop_none HX.out hin hpw hxin) (by decide)).symm)
            rw [decide_eq_false hxin] at CF
            clear hin hpw hxin
            go_wp2_with (go_at_call 38; refine CF.out.mono ?_; rintro e w1 ⟨rfl, rfl⟩)
            refine bodyPost_ret (by simp [results, Tryz.results10, go_sem]; try rfl) rfl ?_
            exact ⟨_, _, rfl, .inl ⟨by decide, HBW.out, rfl, HE.out⟩⟩
        · have hje : j = n := by omega
          rw [hje, ← HNL.out, List.take_length] at hin hpw
          have hle : n ≤ na := by
            rw [← HNL.out, ← HNA.out]
            exact (nodup_lt hpw).length_le_of_subset hin
          have HALL := hide (show ∀ s ∈ ps, ∃ r ∈ l, r.g = a ∧ r.p = s from fun s hs => (HMEM.out s).1 (hin s hs))
          have hjn' : ¬ (j : Int) < (n : Int) := by omega
          have HEND := hide (spE_end HA0.out HP0.out (loop_end hin hpw))
          clear hin hpw
          by_cases hna2 : n = na
          · have hna3 : ((n : Int) == (na : Int)) = true := by rw [hna2]; simp
            go_wp2_with (fail)
            refine bodyPost_ret (by simp [results, Tryz.results10, go_sem]; try rfl) rfl ?_
            exact ⟨_, _, rfl, .inl ⟨by decide, HBW.out, rfl, by rw [HEND.out, if_pos (by rw [HNL.out, HNA.out, hna2])]⟩⟩
          · have HE0 := hide (show spE all ps = 0 by rw [HEND.out, if_neg (by rw [HNL.out, HNA.out]; exact hna2)])
            have hna3 : ((n : Int) == (na : Int)) = false := beq_eq_false_iff_ne.2 (by omega)
            have hS := HH.out.below HBW.out
            have x1 : wr.cell? ⟨q, 1, none⟩ = some (.int .i64 last) := (block_cell hS.rm.box 1).trans rfl
            have x2 : wr.cell? ⟨q, 2, none⟩ = some (.slice SA ss.length sc) := (block_cell hS.rm.box 2).trans rfl
            have f1 : wr.frozen? ⟨q, 1, none⟩ = false := block_free hS.rm.box 1
            have hBr : B ≤ wr.heap.size := Nat.le_trans hBz HBW.out.size
            obtain ⟨wa, hwa⟩ : ∃ wa, wr.setCell ⟨q, 1, none⟩ (.int .i64 (last + 1)) = wa := ⟨_, rfl⟩
            have hka : ∀ k o, wr.heap[k]? = some o → k ≠ q → wa.heap[k]? = some o := fun k o e ne => hwa ▸ block_set_other e _ _ ne
            have hma : RM B wa q lv (last + 1) (.slice SA ss.length sc) l := hS.rm.boxL (last + 1) (hwa ▸ block_set hS.rm.box _) (fun k o _ ne e => hka k o e ne)
            have hSa : RS B wa q lv (last + 1) (.slice SA ss.length sc) l ss := hS.book (P := fun k => k = q) hma (fun k o e ne => hka k o e ne) (fun k hk => .inl hk)
            have hza : wa.heap.size = wr.heap.size := by rw [← hwa]; simp
            have hKa : Keep B (fun k => k = q) wr wa := hwa ▸ Keep.set _ 1 _ HH.out.rm.lo rfl
            have hsA : Sl wa wa.heap.size se 1 A n ps := by
              have h1 := sl_stayM (U := fun k => k ≠ q) (HS.out.below HBW.out) (fun k o e u => hka k o e u) (fun h0 b o e => fun e2 => (HSEP.out h0 b o e).1 (.inl e2))
              exact ⟨h1.len, fun h0 => by obtain ⟨b, o, e, hlt, hc⟩ := h1.cells h0; exact ⟨b, o, e, Nat.lt_of_lt_of_le hlt (by have := HBW.out.size; omega), hc⟩⟩
            have HCM := hide (RMove_any hma (last + 1) A n c ps hsA (fun h0 b o e hp => (HSEP.out h0 b o e).1 (.inr hp)) (by omega) (by omega) (by omega))
            have HSA0 := hide hSa
            have HKA := hide hKa
            have HWA := hide hwa
            have HSLA := hide hsA
            have xa : wa.cell? ⟨q, 1, none⟩ = some (.int .i64 (last + 1)) := (block_cell hma.box 1).trans rfl
            clear hS hka hma hSa hKa hsA
            go_wp2_with (fail)
            refine HCM.out.mono ?_
            rintro e w3 ⟨rfl, hm3, hk3⟩
            have HS3 := hide (HSA0.out.book hm3 (fun k o e u => hk3.keep k o e u) (fun k hp => .inr hp))
            have HK3 := hide hk3
            have hz3 : wr.heap.size ≤ w3.heap.size := by have := hk3.be.size; omega
            have hsl3 : Sl w3 w3.heap.size se 1 A n ps := by
              have h1 := sl_stayM (U := fun k => lv.ownBlock ≠ some k) HSLA.out (fun k o e u => hk3.keep k o e u) (fun h0 b o e hp => (HSEP.out h0 b o e).1 (.inr hp))
              exact ⟨h1.len, fun h0 => by obtain ⟨b, o, e, hlt, hc⟩ := h1.cells h0; exact ⟨b, o, e, Nat.lt_of_lt_of_le hlt hk3.be.size, hc⟩⟩
            have HCL := hide (fun (W : World) (hb : Below w3.heap.size w3 W) => Clone_any A n c ps W (Sl.up hsl3 hb) (by omega))
            have HSS := hide (show ∀ V, Below w3.heap.size w3 V → (fun V => V.cell? ⟨q, 1, none⟩ = some (.int .i64 (last + 1)) ∧ V.cell? ⟨q, 2, none⟩ = some (.slice SA ss.length sc)) V from fun V hb => ⟨(block_cell (block_below hm3.box hb) 1).trans rfl, (block_cell (block_below hm3.box hb) 2).trans rfl⟩)
            have y1 : w3.cell? ⟨q, 1, none⟩ = some (.int .i64 (last + 1)) := (block_cell hm3.box 1).trans rfl
            clear hm3 hk3 hsl3 HCM x1 x2 f1 hwa xa
            go_wp2_with (fail)
            refine wp_region_chain (fun V => V.cell? ⟨q, 1, none⟩ = some (.int .i64 (last + 1)) ∧ V.cell? ⟨q, 2, none⟩ = some (.slice SA ss.length sc)) 14 (by as_aux_lemma => kernel_rfl) (N := 18) (by as_aux_lemma => kernel_rfl) ?_; intro hsh
            have HS0 := HSS.out w3.drew (below_drewN (Below.refl _ _) 1)
            refine wpAnyC_take0 (i := 0) (k := 14) (v := ?_) (d := some 72) rfl (by rfl) (by as_aux_lemma => kernel_rfl) (by as_aux_lemma => kernel_rfl) (by as_aux_lemma => kernel_rfl) hsh (by decide) (by intro _ _ _ h; exact h) (by assumption) (Or.inl ⟨by rfl, ?hy⟩) ?_; (case hy => (intro W _; go_simp; (try with_reducible rfl))); clear hsh; intro hsh
            refine wpAnyC_take0 (i := 1) (k := 14) (v := ?_) (d := some 73) rfl (by rfl) (by as_aux_lemma => kernel_rfl) (by as_aux_lemma => kernel_rfl) (by as_aux_lemma => kernel_rfl) hsh (by decide) (by intro _ _ _ h; exact h) (by assumption) (Or.inl ⟨by rfl, ?hy⟩) ?_; (case hy => (intro W _; go_simp; (try with_reducible rfl))); clear hsh; intro hsh
            refine wpAnyC_take0 (i := 2) (k := 14) (v := ?_) (d := some 74) rfl (by rfl) (by as_aux_lemma => kernel_rfl) (by as_aux_lemma => kernel_rfl) (by as_aux_lemma => kernel_rfl) hsh (by decide) (by intro _ _ _ h; exact h) (by assumption) (Or.inl ⟨by rfl, ?hy⟩) ?_; (case hy => (intro W _; go_simp; (try with_reducible rfl))); clear hsh; intro hsh
            refine wpAnyC_take0 (i := 3) (k := 14) (v := ?_) (d := some 75) rfl (by rfl) (by as_aux_lemma => kernel_rfl) (by as_aux_lemma => kernel_rfl) (by as_aux_lemma => kernel_rfl) hsh (by decide) (by intro _ _ _ h; exact h) (by assumption) (Or.inl ⟨by rfl, ?hy⟩) ?_; (case hy => (intro W _; go_simp; (try with_reducible rfl))); clear hsh; intro hsh
            refine wpAnyC_take (i := 4) (k := 14) (f := 40) (v := ?_) (d := some 76) rfl (by rfl) (by as_aux_lemma => kernel_rfl) (by as_aux_lemma => kernel_rfl) (by as_aux_lemma => kernel_rfl) hsh (by decide) (by as_aux_lemma => kernel_rfl) (by intro _ _ _ h; exact h) (by assumption) (Or.inl ⟨by rfl, ?hy⟩) ?_; (case hy => (rintro W ⟨b1, b2⟩; go_simp; (try with_reducible rfl))); clear hsh; intro hsh
            refine wpAnyC_take0 (i := 5) (k := 14) (v := ?_) (d := some 77) rfl (by rfl) (by as_aux_lemma => kernel_rfl) (by as_aux_lemma => kernel_rfl) (by as_aux_lemma => kernel_rfl) hsh (by decide) (by intro _ _ _ h; exact h) (by assumption) (Or.inl ⟨by rfl, ?hy⟩) ?_; (case hy => (intro W _; go_simp; (try with_reducible rfl))); clear hsh; intro hsh
            refine wpAnyC_take0 (i := 6) (k := 14) (v := ?_) (d := some 78) rfl (by rfl) (by as_aux_lemma => kernel_rfl) (by as_aux_lemma => kernel_rfl) (by as_aux_lemma => kernel_rfl) hsh (by decide) (by intro _ _ _ h; exact h) (by assumption) (Or.inl ⟨by rfl, ?hy⟩) ?_; (case hy => (intro W _; go_simp; (try with_reducible rfl))); clear hsh; intro hsh
            refine wpAnyC_take0 (i := 7) (k := 14) (v := ?_) (d := some 79) rfl (by rfl) (by as_aux_lemma => kernel_rfl) (by as_aux_lemma => kernel_rfl) (by as_aux_lemma => kernel_rfl) hsh (by decide) (by intro _ _ _ h; exact h) (by assumption) (Or.inl ⟨by rfl, ?hy⟩) ?_; (case hy => (intro W _; go_simp; (try with_reducible rfl))); clear hsh; intro hsh
            refine wpAnyC_take0 (i := 8) (k := 14) (v := ?_) (d := some 80) rfl (by rfl) (by as_aux_lemma => kernel_rfl) (by as_aux_lemma => kernel_rfl) (by as_aux_lemma => kernel_rfl) hsh (by decide) (by intro _ _ _ h; exact h) (by assumption) (Or.inl ⟨by rfl, ?hy⟩) ?_; (case hy => (intro W _; go_simp; (try with_reducible rfl))); clear hsh; intro hsh
            refine wpAnyC_take (i := 9) (k := 14) (f := 40) (v := ?_) (d := some 81) rfl (by rfl) (by as_aux_lemma => kernel_rfl) (by as_aux_lemma => kernel_rfl) (by as_aux_lemma => kernel_rfl) hsh (by decide) (by as_aux_lemma => kernel_rfl) (by intro _ _ _ h; exact h) (by assumption) (Or.inl ⟨by rfl, ?hy⟩) ?_; (case hy => (rintro W ⟨b1, b2⟩; go_simp; (try with_reducible rfl))); clear hsh; intro hsh
            refine wpAnyC_take0 (i := 10) (k := 14) (v := ?_) (d := some 82) rfl (by rfl) (by as_aux_lemma => kernel_rfl) (by as_aux_lemma => kernel_rfl) (by as_aux_lemma => kernel_rfl) hsh (by decide) (by intro _ _ _ h; exact h) (by assumption) (Or.inl ⟨by rfl, ?hy⟩) ?_; (case hy => (intro W _; go_simp; (try with_reducible rfl))); clear hsh; intro hsh
            refine wpAnyC_ready (rs := [11]) (by as_aux_lemma => kernel_rfl) (by simp) ?_; refine AllC.cons (i := 11) rfl (by as_aux_lemma => kernel_rfl) hsh (fun K hK => ?_) AllC.nil
            go_simp
            go_at_call 37
            have hbd1 : Below w3.heap.size w3 w3.drew := below_drewN (Below.refl _ _) 1
            refine (HCL.out w3.drew hbd1).mono ?_
            rintro e w4 ⟨v4, rfl, hr4, hb4⟩
            obtain ⟨A4, c4, rfl⟩ := own_sl hr4
            have hb4' : Below w3.heap.size w3 w4 := hbd1.trans hb4
            have HB4 := hide hb4'
            have HR4 := hide (show w4.ownsRow w3.heap.size 9 1 (.slice A4 n c4) n (ps.map encStr) from hr4)
            have HS4 := HSS.out w4 hb4'
            have HSA := HSS.out (w4.alloc (.cells #[.int .i64 2, .int .i64 a, .int .i64 (last + 1), .slice A4 n c4] 49)) (hb4'.alloc hb4'.size _)
            try go_simp
            refine hK _ _ (fun _ => HS4) ?_
            clear hK K hsh HS0 hb4 hb4' hbd1 hr4
            intro hsh
            refine wpAnyC_take0 (i := 12) (k := 14) (v := ?_) (d := some 84) rfl (by rfl) (by as_aux_lemma => kernel_rfl) (by as_aux_lemma => kernel_rfl) (by as_aux_lemma => kernel_rfl) hsh (by decide) (by intro _ _ _ h; exact h) (by assumption) (Or.inl ⟨by rfl, ?hy⟩) ?_; (case hy => (intro W _; go_simp; (try with_reducible rfl))); clear hsh; intro hsh
            refine wpAnyC_ready (rs := [13]) (by as_aux_lemma => kernel_rfl) (by simp) ?_; refine AllC.cons (i := 13) rfl (by as_aux_lemma => kernel_rfl) hsh (fun K hK => ?_) AllC.nil
            go_simp
            refine hK _ _ (fun _ => HSA) ?_
            clear hK K hsh
            intro hsh
            refine wpAnyC_tail (by as_aux_lemma => kernel_rfl) (by simp) (by as_aux_lemma => kernel_rfl) ?_; simp only [List.drop_succ_cons, List.drop_zero]; clear hsh
            have HSB := hide (HS3.out.below HB4.out)
            have hz4 := HB4.out.size
            have z4 : w4.cell? ⟨q, 2, none⟩ = some (.slice SA ss.length sc) := (block_cell HSB.out.rm.box 2).trans rfl
            clear HS4 HSA y1
            go_wp2_with (first | (at_builtin; refine wpList_append_own_at _ rfl (.tmp 76) (.tmp 85) 27 rfl B 49 i0 (.agg #[.int .i64 0, .int .i64 0, .int .i64 0, .slice none 0 0]) 4 48 Tryz.underlying27 hi0 iz0 iz1 iz2 rfl (by decide) (.slice SA ss.length sc) ss.length (ss.flatMap Stp.cs) (by go_simp) (HSB.out.row.alloc _) ⟨w4.heap.size, 0, none⟩ 1 1 [.int .i64 2, .int .i64 a, .int .i64 (last + 1), .slice A4 n c4] (by go_simp) rfl (cells_at _ [.int .i64 2, .int .i64 a, .int .i64 (last + 1), .slice A4 n c4] _ _ rfl) (by intro u hu; simp at hu; rcases hu with rfl | rfl | rfl | rfl <;> rfl) (by unfold maxLen; omega) (by omega) (by simp; omega) ?_; intro v8 w8 hown8 hg8 _ hat8; obtain ⟨A8, c8, rfl⟩ := own_sl hown8; have HST := hide (rst8 HSB.out hown8 hg8); have HAT8 := hide hat8; have z8 : w8.cell? ⟨q, 2, none⟩ = some (.slice SA ss.length sc) := (block_cell (HST.out.1 _ _ HSB.out.rm.box (fun e => HSB.out.row_ne e (.inl rfl))) 2).trans rfl; have y8 : w8.cell? ⟨q, 1, none⟩ = some (.int .i64 (last + 1)) := (block_cell (HST.out.1 _ _ HSB.out.rm.box (fun e => HSB.out.row_ne e (.inl rfl))) 1).trans rfl; have f8 : w8.frozen? ⟨q, 2, none⟩ = false := block_free (HST.out.1 _ _ HSB.out.rm.box (fun e => HSB.out.row_ne e (.inl rfl))) 2; have HO8 := hide hown8; clear hown8 hg8 hat8 z4))
            refine bodyPost_ret (by simp [results, Tryz.results10, go_sem]; try rfl) rfl ?_
            have hb8 := HST.out.1 _ _ HSB.out.rm.box (fun e => HSB.out.row_ne e (.inl rfl))
            have hz8 := HST.out.2.1
            have hk9 : ∀ k o, w4.heap[k]? = some o → k ≠ q → (Value.slice SA ss.length sc).ownBlock ≠ some k → (w8.setCell ⟨q, 2, none⟩ (.slice A8 (ss.length + 1) c8)).heap[k]? = some o := fun k o e ne nv => block_set_other (HST.out.1 k o e nv) _ _ ne
            have hne4 : ∀ k, (Value.slice A4 n c4).ownBlock = some k → k ≠ q ∧ (Value.slice SA ss.length sc).ownBlock ≠ some k := fun k e => by
              refine ⟨fun e2 => rrowY HR4.out HSB.out.rm e (.inl e2), fun e2 => ?_⟩
              obtain ⟨cur, h1⟩ := row_blkB HR4.out e
              obtain ⟨cur2, h2⟩ := row_blkB HSB.out.row e2
              rw [h1] at h2
              cases h2
            have hzw := HBW.out.size
            refine ⟨_, _, rfl, .inr ⟨rfl, HALL.out, (by rw [HNL.out]; omega), rfl, HE0.out, .slice A8 (ss.length + 1) c8, ⟨2, a, last + 1, A4, n, c4, ps⟩, ?_, rfl, rfl, rfl, rfl, ?_, ?_⟩⟩
            · refine HSB.out.push ⟨2, a, last + 1, A4, n, c4, ps⟩ _ (block_set hb8 _) (own_stayB HO8.out fun k o e eo => block_set_other eo _ _ (fun e2 => own_other' HO8.out hb8 (by decide) (by rw [e, show k = q from e2]))) ?_ hk9
              rw [show (⟨2, a, last + 1, A4, n, c4, ps⟩ : Stp).ps.length = n from HNL.out]
              exact World.ownsRow.mono (own_stayB HR4.out fun k o e eo => hk9 k o eo (hne4 k e).1 (hne4 k e).2) (by omega)
            · have k1 : Keep B (RSB q lv (.slice SA ss.length sc) ss) w wr := Keep.of_below HBW.out hBz
              have k2 : Keep B (RSB q lv (.slice SA ss.length sc) ss) wr wa := HKA.out.mono (Nat.le_refl _) (fun k hk => .inl (.inl hk))
              have k3 : Keep B (RSB q lv (.slice SA ss.length sc) ss) wa w3 := HK3.out.mono (Nat.le_refl _) (fun k hk => .inl (.inr hk))
              have k4 : Keep B (RSB q lv (.slice SA ss.length sc) ss) w3 w4 := Keep.of_below HB4.out (by omega)
              have k5 : Keep B (RSB q lv (.slice SA ss.length sc) ss) w4 w8 := ⟨HST.out.2.2 B (by omega) (fun k e => (HSB.out.row.lt k e).1), fun k o e ne => HST.out.1 k o e (fun e2 => ne (.inr (.inl e2)))⟩
              exact ((((k1.trans k2).trans k3).trans k4).trans k5).trans (Keep.set _ 2 _ HH.out.rm.lo (.inl (.inl rfl)))
            · rintro k (hk | hk | ⟨s, hs, hk⟩)
              · exact .inl (.inl hk)
              · rcases HAT8.out with h | h
                · exact .inl (.inr (.inl (by rw [← h]; exact hk)))
                · rw [h] at hk
                  have h9 := Option.some.inj hk
                  simp at h9
                  right
                  omega
              · rcases List.mem_append.1 hs with hs | hs
                · exact .inl (.inr (.inr ⟨s, hs, hk⟩))
                · rw [List.mem_singleton.1 hs] at hk
                  exact .inr (by have := (HR4.out.lt k hk).1; omega)
end Go.Proofs.YtapfcnfmonknjaaGreatDoor.Bk
