/- Walk of GroupSums (printed by gen_gs.py). -/
import Derived.Test.YtmogfmpcfdlpfaaDoorBkGs
import Derived.Test.YtmogfmpcfdlpfaaDoorGrAwk
import Derived.Test.YtmogfmpcfdlpfaaDoorStillQ
namespace Go.Proofs.YtmogfmpcfdlpfaaDoor.Bk
open Go.RowKit Go.Maps Go.Sort
set_option linter.unusedVariables false
set_option linter.unusedSimpArgs false
def sb2 (s : ByteArray) : List Value := [.string s]
structure T3 where
  a : Int
  b : Int
  c : Int
def T3.cs (t : T3) : List Value := [.int .i64 t.a, .int .i64 t.b, .int .i64 t.c]
theorem SJ.keepM {B p mb : Nat} {l0 l : List Pr} {ss : List Stp} {i : Nat} {w w' : World} (h : SJ B p mb l0 ss l i w) (hk : ∀ k o, k < w.heap.size → w.heap[k]? = some o → w'.heap[k]? = some o) (hz : w.heap.size ≤ w'.heap.size) : SJ B p mb l0 ss l i w' := by
  obtain ⟨mn, last, sv, bk, h1, h2, h3, h4⟩ := h
  exact ⟨mn, last, sv, bk, h1.keep fun k o hb e => hk k o (h1.lt hb) e, h2, h3, Nat.le_trans h4 hz⟩
theorem NX.of {X : UX} {ss : List Stp} {l : List Pr} {i : Nat} {w w1 w' : World} (h : NX X ss l i w1 w') (hb : Below X.B w w1) : NX X ss l i w w' := by
  obtain ⟨ss', l', h1, h2, h3, h4, h5⟩ := h
  exact ⟨ss', l', h1, h2, h3, h4, hb.trans h5⟩
theorem sl_take {w : World} {B n : Nat} {A : Option Addr} {ps : List (List UInt8)} (h : Sl w B se 1 A n ps) {m : Nat} (hm : m ≤ n) : Sl w B se 1 A m (ps.take m) := by
  have hl := h.len
  refine ⟨by rw [List.length_take]; omega, fun h0 => ?_⟩
  obtain ⟨b, o, e, hlt, hc⟩ := h.cells (by omega)
  refine ⟨b, o, e, hlt, fun i a ha j v hv => hc i a ?_ j v hv⟩
  rw [List.getElem?_take] at ha
  split at ha
  · exact ha
  · cases ha
theorem zero_b (w : World) : (zeroValue 4).run Tryd.prog w = .ok (.bool false) w := by kernel_rfl
set_option maxRecDepth 100000 in
theorem seen_run {w : World} {M nm : Nat} {ks : List (List UInt8)} (h : w.ownsMap (H := Unit) Tryd.prog 9 (plainElem Tryd.prog 4) M nm (seenD ks)) (s : ByteArray) (hkey : keyOf Tryd.prog 9 (.string s) = some (.string s.data.toList)) :
    (Instr.lookup 38 (.map (some M)) (.string s) false).run Tryd.prog w = .ok (.bool (ks.contains s.data.toList)) w := by
  obtain ⟨v, ps, hrun, hv⟩ := h.lookup law_s Tryd.underlying38 (zero_b w) (plainElem_bool Tryd.underlying4 false) hkey
  obtain ⟨c, rfl, hc⟩ := plainElem_bool_inv Tryd.underlying4 hv
  simp only [Prod.mk.injEq] at hc
  have hc2 : c = ks.contains s.data.toList := by
    have h2 := hc.1
    rw [seenD_at] at h2
    injection h2 with h2
    injection h2 with h2
    exact h2.symm
  rw [hrun, hc2]
theorem rec_sums {l : List Pr} {last : Int} {i : Nat} (h : Rec l last i) (hi : i ≤ 100) : (0 ≤ sumL (l.map Pr.ev) ∧ sumL (l.map Pr.ev) ≤ 1000000) ∧ (0 ≤ sumL (l.map Pr.wt) ∧ sumL (l.map Pr.wt) ≤ 1000000000) := by
  have h1 := sumL_le (M := 1000) (by decide) (l.map Pr.ev) (fun x hx => by obtain ⟨r, hr, rfl⟩ := List.mem_map.1 hx; have := (h.rng r hr).2.1; omega)
  have h2 := sumL_le (M := 100000) (by decide) (l.map Pr.wt) (fun x hx => by obtain ⟨r, hr, rfl⟩ := List.mem_map.1 hx; have := (h.rng r hr).2.2; omega)
  have := h.len
  rw [List.length_map] at h1 h2
  omega
theorem grs_sums {B : Nat} {w : World} {v : Value} {l : List Pr} {es : List Ge} (h : GrsIn B w v l es) (hok : ∀ r ∈ l, PrOk r) (hl : l.length ≤ 1000) (j : Nat) : (0 ≤ sumL ((es.take j).map Ge.ev) ∧ sumL ((es.take j).map Ge.ev) ≤ 1000000000000) ∧ (0 ≤ sumL ((es.take j).map Ge.wt) ∧ sumL ((es.take j).map Ge.wt) ≤ 1000000000000000000) := by
  have hl2 := len_g h
  have h1 := sumL_le (M := 1000000000) (by decide) ((es.take j).map Ge.ev) (fun x hx => by
    obtain ⟨z, hz, rfl⟩ := List.mem_map.1 hx
    rw [(h.at_ z (List.mem_of_mem_take hz)).1]
    exact (rawG_rng hok hl z.id).1)
  have h2 := sumL_le (M := 1000000000000000) (by decide) ((es.take j).map Ge.wt) (fun x hx => by
    obtain ⟨z, hz, rfl⟩ := List.mem_map.1 hx
    rw [(h.at_ z (List.mem_of_mem_take hz)).2.1]
    exact (rawG_rng hok hl z.id).2)
  rw [List.length_map, List.length_take] at h1 h2
  omega
/-- A place in a row, by a remainder. -/
theorem rem_at (s : Int) (n : Nat) (hn : 0 < n) : ∃ k : Nat, k < n ∧ Int.tmod (max s 0) (n : Int) = (k : Int) := by
  refine ⟨(max s 0).toNat % n, Nat.mod_lt _ hn, ?_⟩
  rw [Int.tmod_eq_emod_of_nonneg (by omega)]
  have : ((max s 0).toNat : Int) = max s 0 := Int.toNat_of_nonneg (by omega)
  rw [Int.natCast_emod, this]
set_option maxRecDepth 100000 in
set_option maxHeartbeats 32000000 in
theorem GroupSums_any (A0 : Option Addr) (n0 c0 : Nat) (pl : List ByteArray) (A1 : Option Addr) (n1 c1 : Nat) (tl : List T3) (w : World) (hn0 : n0 ≤ maxLen) (hnc0 : n0 ≤ c0) (hn1 : n1 ≤ maxLen) (hnc1 : n1 ≤ c1)
    (hp : Sl w w.heap.size sb2 1 A0 n0 pl) (hpf : ∀ s ∈ pl, s.size ≤ maxLen) (ht : Sl w w.heap.size T3.cs 3 A1 n1 tl) :
    Calls Tryd.prog 3 #[.slice A0 n0 c0, .slice A1 n1 c1] w fun e w' => e = .returned (.bool true) ∧ Below w.heap.size w w' := by
  unfold maxLen at hn0 hn1
  have HP := hide hp
  have HPF := hide hpf
  have HT := hide ht
  clear hp hpf ht
  obtain ⟨kk, hkk⟩ : ∃ kk : Nat, min n0 40 = kk := ⟨_, rfl⟩
  have hk40 : kk ≤ 40 := by omega
  have hk1 : kk ≤ n0 := by omega
  obtain ⟨mm, hmm0⟩ : ∃ mm : Nat, min n1 40 = mm := ⟨_, rfl⟩
  have hm40 : mm ≤ 40 := by omega
  have hm1 : mm ≤ n1 := by omega
  go_enter Tryd.func3, Tryd.ntmps3
  go_wp2_with (first
    | (go_at_call 5; refine (awakeGroup_any _).mono ?_; rintro e w1 ⟨rfl, hw1⟩; have HB1 := hide hw1; clear hw1)
    | (go_at_call 6; refine (NewBook_ok _).mono ?_; rintro e w2 ⟨rfl, hbm, hw2⟩; have HBM := hide hbm; have HB2 := hide (HB1.out.trans (hw2.mono HB1.out.size)); have hz2 := hw2.size; clear hbm hw2))
  have hz1 := HB1.out.size
  obtain ⟨B, hB⟩ : ∃ B, w1.heap.size = B := ⟨_, rfl⟩
  rw [hB] at HBM hz1 hz2 ⊢
  obtain ⟨p, hpp⟩ : ∃ p, B + 1 = p := ⟨_, rfl⟩
  rw [hpp] at HBM ⊢
  have HBS := hide (show BS B w2 p B 0 0 (.slice none 0 0) [] (fun _ => 0) [] from ⟨HBM.out, World.ownsRow_nil _ _ _ _, by simp⟩)
  clear HBM HB1 hB hpp
  go_loopw [6, 7, 35] (fun tm tw ti wr => ∃ (i mn : Nat) (last : Int) (l : List Pr) (bk : List UInt8 → Nat), i ≤ kk ∧ tm = .int .i64 (sumL (l.map Pr.ev)) ∧ tw = .int .i64 (sumL (l.map Pr.wt)) ∧ ti = .int .i64 (i : Int) ∧ BS B wr p B mn last (.slice none 0 0) l bk [] ∧ Rec l last i ∧ mn ≤ i ∧ Below w.heap.size w wr ∧ B ≤ wr.heap.size) (fun _ _ ti _ => kk - (intOf ti).toNat)
  case atStart => exact ⟨0, 0, 0, [], _, Nat.zero_le _, rfl, rfl, rfl, HBS.out, Rec.start, Nat.le_refl _, HB2.out, hz2⟩
  case round =>
    obtain ⟨i, mn, last, l, bk, hi, rfl, rfl, rfl, hS, hR, hmn, hBW, hzB⟩ := hrel
    clear HBS HB2
    obtain ⟨hse, hsw⟩ := rec_sums hR (by omega)
    have HSB := hide hS
    have HR := hide hR
    have HBW := hide hBW
    have hzr := hBW.size
    clear hS hR hBW
    obtain ⟨SE, hSE⟩ : ∃ SE, sumL (l.map Pr.ev) = SE := ⟨_, rfl⟩
    obtain ⟨SW, hSW⟩ : ∃ SW, sumL (l.map Pr.wt) = SW := ⟨_, rfl⟩
    rw [hSE] at hse ⊢
    rw [hSW] at hsw ⊢
    have HSE := hide hSE
    have HSW := hide hSW
    clear hSE hSW
    by_cases hlt : i < kk
    · obtain ⟨bb, oo, d, hA0, hbb, hx, hc⟩ := (HP.out.below HBW.out).at_ (show i < n0 by omega)
      have hd : d.size ≤ maxLen := HPF.out d (List.mem_of_getElem? hx)
      have d0 : wr.cell? ⟨bb, oo + i, none⟩ = some (.string d) := by simpa [sb2] using hc 0 _ rfl
      clear hc hx
      subst hA0
      have hlt' : (i : Int) < (kk : Int) := by omega
      have CT := hide (Take_bs HSB.out HR.out (by omega) hmn (i : Int) ((i : Int) + 1) (by omega) (by omega) d hd hzB)
      go_wp2_with (fail)
      refine CT.out.mono ?_
      rintro e w4 ⟨y, bo, x, mn', last', l', bk', rfl, h4, h5, h6, h7, h8, hb4⟩
      rw [HSE.out, HSW.out] at h7
      have H4 := hide h4
      have H5 := hide h5
      have HB4 := hide (HBW.out.trans (hb4.mono hz1))
      have hz4 := hb4.size
      clear h4 h5 hb4 CT
      by_cases hx0 : x = 0
      · subst hx0
        have H7 := hide (h7 rfl)
        clear h7 h8
        go_wp2_with (fail)
        go_roundw
        case rel => exact ⟨i + 1, mn', last', l', bk', by omega, by rw [H7.out.1], by rw [H7.out.2], by go_num, H4.out, H5.out, h6, HB4.out, by omega⟩
        case measure => simp [intOf]; omega
      · have hl' := h8 hx0
        have hx1 : (x == 0) = false := beq_eq_false_iff_ne.2 hx0
        subst hl'
        clear h7 h8
        go_wp2_with (fail)
        go_roundw
        case rel => exact ⟨i + 1, mn', last', l', bk', by omega, by rw [HSE.out], by rw [HSW.out], by go_num, H4.out, H5.out, h6, HB4.out, by omega⟩
        case measure => simp [intOf]; omega
    · obtain rfl : i = kk := by omega
      have HSJ := hide (show SJ B p B l [] l 40 wr from ⟨mn, last, _, bk, HSB.out, HR.out.more (by omega), rfl, hzB⟩)
      clear HSB HR HP HPF
      go_wp2_with (fail)
      rename World => wo
      go_loopw [65] (fun ti wr => ∃ (j : Nat) (ss : List Stp) (l2 : List Pr), j ≤ mm ∧ ti = .int .i64 (j : Int) ∧ SJ B p B l ss l2 (40 + j) wr ∧ ss.length ≤ j ∧ sumL (l2.map Pr.ev) = SE ∧ sumL (l2.map Pr.wt) = SW ∧ Below w.heap.size w wr) (fun ti _ => mm - (intOf ti).toNat)
      case atStart => exact ⟨0, [], l, Nat.zero_le _, rfl, HSJ.out, Nat.le_refl _, HSE.out, HSW.out, HBW.out⟩
      case round =>
        obtain ⟨j, ss, l2, hj, rfl, hS, hss, hSE, hSW, hBr⟩ := hrel
        have HSJ2 := hide hS
        have HBR := hide hBr
        have HE2 := hide hSE
        have HW2 := hide hSW
        have hzr2 := hBr.size
        clear hS hBr hSE hSW HSJ HBW HSE HSW
        by_cases hjm : j < mm
        · obtain ⟨tb, tof, t3, hA1, htb, htx, htc⟩ := (HT.out.below HBR.out).at_ (show j < n1 by omega)
          obtain ⟨s0, s1, s2⟩ := t3
          have d0 : wr.cell? ⟨tb, tof + j * 3, none⟩ = some (.int .i64 s0) := by simpa using htc 0 _ rfl
          have d1 : wr.cell? ⟨tb, tof + j * 3 + 1, none⟩ = some (.int .i64 s1) := htc 1 _ rfl
          have d2 : wr.cell? ⟨tb, tof + j * 3 + 2, none⟩ = some (.int .i64 s2) := htc 2 _ rfl
          clear htc htx
          subst hA1
          have hjm' : (j : Int) < (mm : Int) := by omega
          obtain ⟨wa, hwa⟩ : ∃ wa, wr.alloc (.cells #[.int .i64 s0, .int .i64 s1, .int .i64 s2] 30) = wa := ⟨_, rfl⟩
          have hba : Below wr.heap.size wr wa := hwa ▸ (Below.refl _ _).alloc (Nat.le_refl _) _
          have hna : wa.heap[wr.heap.size]? = some (.cells #[.int .i64 s0, .int .i64 s1, .int .i64 s2] 30 (0, 0)) := hwa ▸ heap_alloc_new wr _
          obtain ⟨mn2, la2, sv2, bk2, hbs2, hrec2, hch2, hzB2⟩ := HSJ2.out.below hba
          have hlen2 := hrec2.len
          have CG := hide (Groups_any hbs2.bm hrec2.nd (by omega) (hrec2.ok (by omega)))
          have HBS2 := hide hbs2
          have HREC2 := hide hrec2
          have HCH2 := hide hch2
          have HNA := hide hna
          have HBA := hide (HBR.out.trans (hba.mono hzr2))
          have hza := hba.size
          obtain ⟨q, hq⟩ : ∃ q, wr.heap.size = q := ⟨_, rfl⟩
          rw [hq] at HNA hza hzr2
          have hqa := lt_of_block HNA.out
          clear hba hna hbs2 hrec2 hch2 HSJ2
          go_wp2_with (fail)
          (try rw [hq])
          refine CG.out.mono ?_
          rintro e wg ⟨v, es, rfl, hgr, hbg⟩
          obtain ⟨vA, vc, rfl, hsl, hvc⟩ := sl_of_own (f := Ge.cs) (sz := 6) (fun _ => rfl) rfl hgr.own
          have HU := hide (show UJ ⟨B, wa.heap.size, wg.heap.size, p, B, l, l2, .slice vA es.length vc, es⟩ ss l2 (40 + j) wg from ⟨mn2, la2, sv2, bk2, HBS2.out.below hbg, HREC2.out, HCH2.out, fun k hk => .inl (HBS2.out.lt hk), GrsK.of hgr, Nat.le_refl _, by show B ≤ wa.heap.size; omega, hbg.size⟩)
          have HGR := hide hgr
          have HSL := hide hsl
          have HBG := hide (HBA.out.trans (hbg.mono HBA.out.size))
          have hng := block_below HNA.out hbg
          have HNG := hide hng
          have hgl := len_g hgr
          have hzg := hbg.size
          have g0 : wg.cell? ⟨q, 0, none⟩ = some (.int .i64 s0) := (block_cell hng 0).trans rfl
          have g1 : wg.cell? ⟨q, 1, none⟩ = some (.int .i64 s1) := (block_cell hng 1).trans rfl
          have g2 : wg.cell? ⟨q, 2, none⟩ = some (.int .i64 s2) := (block_cell hng 2).trans rfl
          have HSUM := hide (sum_both hgr)
          clear hgr hsl hbg hng CG HNA HBS2 HCH2 hwa hq
          obtain ⟨n, hn⟩ : ∃ n, es.length = n := ⟨_, rfl⟩
          rw [hn] at HSL HU hgl hvc ⊢
          have HN := hide hn
          have hn1000 : n ≤ 1000 := by omega
          by_cases hn00 : n = 0
          · have hE0 : SE = 0 := by
              rw [← HE2.out, ← HSUM.out.1, List.eq_nil_of_length_eq_zero (HN.out.trans hn00)]; rfl
            subst hn00
            subst hE0
            clear hn
            go_wp2_with (fail)
            go_ret
            exact ⟨rfl, HBG.out⟩
          · have hn01 : ((n : Int) == 0) = false := beq_eq_false_iff_ne.2 (by omega)
            clear hn
            by_cases hs0 : s0 = 0
            · subst hs0
              obtain ⟨k1, hk1, e1⟩ := rem_at s1 n (by omega)
              obtain ⟨k2, hk2, e2⟩ := rem_at s2 n (by omega)
              obtain ⟨gb, gof, x1, hgA, hgb, hx1, hc1⟩ := HSL.out.at_ hk1
              obtain ⟨gb', gof', x2, hgA', _, hx2, hc2⟩ := HSL.out.at_ hk2
              rw [hgA] at hgA'
              cases hgA'
              have f1 : wg.cell? ⟨gb, gof + k1 * 6, none⟩ = some (.int .i64 x1.id) := by simpa using hc1 0 _ rfl
              have f2 : wg.cell? ⟨gb, gof + k2 * 6, none⟩ = some (.int .i64 x2.id) := by simpa using hc2 0 _ rfl
              obtain ⟨i1, hi1⟩ : ∃ i1, x1.id = i1 := ⟨_, rfl⟩
              obtain ⟨i2, hi2⟩ : ∃ i2, x2.id = i2 := ⟨_, rfl⟩
              rw [hi1] at f1
              rw [hi2] at f2
              subst hgA
              have hk1' : (k1 : Int) < (n : Int) := by omega
              have hk2' : (k2 : Int) < (n : Int) := by omega
              have hn02 : (n : Int) ≠ 0 := by omega
              have CM := hide (Merge_nx (HU.out.below (below_drewN (Below.refl wg.heap.size wg) 1)) (by omega) (by omega) i1 i2)
              clear hc1 hc2 hx1 hx2 hi1 hi2 hgb HU
              go_wp2_with (fail)
              refine wp_region_still_tail 21 (by kernel_rfl) (by kernel_rfl) ?_; simp only [List.take_succ_cons, List.take_zero, List.drop_succ_cons, List.drop_zero]; change wpStill _ _ wg.drew _ _ _; refine wpStill_of_quiet _ _ ?_; (repeat (go_big_quiet_step (fail))); refine wpQuiet_nil ?_; change wpList _ _ _ _ _ wg.drew
              go_wp2_with (fail)
              refine CM.out.mono ?_
              rintro e w5 ⟨xm, rfl, hnx⟩
              have HNX := hide (hnx.of (below_drewN (Below.refl _ _) 1))
              clear hnx CM f1 f2
              obtain ⟨ss5, l5, hS5, hss5, hE5, hW5, hb5⟩ := HNX.out
              have HB5 := hide (HBG.out.trans (hb5.mono hz1))
              have hz5 := HB5.out.size
              rw [HE2.out] at hE5
              rw [HW2.out] at hW5
              have HS5 := hide (show SJ B p B l ss5 l5 (40 + (j + 1)) w5 from hS5)
              have HE5 := hide hE5
              have HW5 := hide hW5
              clear HNX hS5 hE5 hW5 hb5 HBG HGR HSL HNG HE2 HW2 g0 g1 g2 HSUM HREC2
              have hmm := @run_makeMap Tryd.prog
              obtain ⟨w6, hw6⟩ : ∃ w6, w5.alloc (.map #[] 0) = w6 := ⟨_, rfl⟩
              have hb6 : Below w5.heap.size w5 w6 := hw6 ▸ (Below.refl _ _).alloc (Nat.le_refl _) _
              have HM6 := hide (show w6.ownsMap (H := Unit) Tryd.prog 9 (plainElem Tryd.prog 4) w5.heap.size 0 (seenD []) from hw6 ▸ World.ownsMap_made w5 _ _ _)
              have HS6 := hide (HS5.out.below hb6)
              have HB6 := hide (HB5.out.trans (hb6.mono hz5))
              obtain ⟨mn6, la6, sv6, bk6, hbs6, hrec6, hch6, hzB6⟩ := HS6.out
              have hlen6 := hrec6.len
              have HND6 := hide hrec6.nd
              have HOK6 := hide (hrec6.ok (by omega))
              have HSZ6 := hide hrec6.sz
              have CG6 := hide (Groups_any hbs6.bm hrec6.nd (by omega) (hrec6.ok (by omega)))
              have hM6 := HM6.out.lt
              obtain ⟨M, hM⟩ : ∃ M, w5.heap.size = M := ⟨_, rfl⟩
              rw [hM] at HM6 hM6 hz5
              have HB56 := hide hb6
              clear hbs6 hrec6 hch6 HB5 hb6
              go_wp2_with (fail)
              (try rw [hM])
              (try rw [hw6])
              refine CG6.out.mono ?_
              rintro e w7 ⟨v7, es7, rfl, hgr7, hbg7⟩
              obtain ⟨vA7, vc7, rfl, hsl7, hvc7⟩ := sl_of_own (f := Ge.cs) (sz := 6) (fun _ => rfl) rfl hgr7.own
              have HGR7 := hide hgr7
              have HSL7 := hide hsl7
              have HM7 := hide (HM6.out.kept (grown_b hbg7) (by simp))
              have HS7 := hide (HS6.out.below hbg7)
              have HB7 := hide (HB6.out.trans (hbg7.mono HB6.out.size))
              have HK57 := hide (show ∀ k o, k < M → w5.heap[k]? = some o → w7.heap[k]? = some o from fun k o _ e => block_below (block_below e HB56.out) hbg7)
              have hz7 := hbg7.size
              have hgl7 := len_g hgr7
              have HID7 := hide (ids_nodup hgr7)
              have HSUM7 := hide (sum_both hgr7)
              have HBK7 := hide (show ∀ k, (Value.slice vA7 es7.length vc7).ownBlock = some k → M < k from fun k e => by have := (hgr7.own.lt k e).1; omega)
              have HPB7 := hide (show ∀ x ∈ es7, ∀ k, x.sl.ownBlock = some k → M < k from fun x hx k e => by have := ((hgr7.ps x hx).lt k e).1; omega)
              have HGS7 := hide (fun j => grs_sums hgr7 HOK6.out (by omega) j)
              clear hgr7 hsl7 hbg7 CG6 HM6 HS6 HB6 hw6 hmm
              go_wp2_with (fail)
              go_loopw [17, 18, 136] (fun tn tw ti wr => ∃ (i nm : Nat), i ≤ es7.length ∧ ti = .int .i64 (i : Int) ∧ tn = .int .i64 (sumL ((es7.take i).map Ge.ev)) ∧ tw = .int .i64 (sumL ((es7.take i).map Ge.wt)) ∧ wr.ownsMap (H := Unit) Tryd.prog 9 (plainElem Tryd.prog 4) M nm (seenD (seenL l5 es7 i)) ∧ nm ≤ 1000 * i ∧ Keep M (fun k => k = M) w7 wr) (fun _ _ ti _ => es7.length - (intOf ti).toNat)
              case atStart => exact ⟨0, 0, Nat.zero_le _, rfl, rfl, rfl, HM7.out, Nat.zero_le _, Keep.refl _ _ _⟩
              case round =>
                obtain ⟨i, nm, hi, rfl, rfl, rfl, hmap, hnm, hK⟩ := hrel
                obtain ⟨⟨hsv0, hsv1⟩, hsw0, hsw1⟩ := HGS7.out i
                obtain ⟨TV, hTV⟩ : ∃ TV, sumL ((es7.take i).map Ge.ev) = TV := ⟨_, rfl⟩
                obtain ⟨TW, hTW⟩ : ∃ TW, sumL ((es7.take i).map Ge.wt) = TW := ⟨_, rfl⟩
                rw [hTV] at hsv0 hsv1 ⊢
                rw [hTW] at hsw0 hsw1 ⊢
                have HTV := hide hTV
                have HTW := hide hTW
                have HMAP := hide hmap
                have HK := hide hK
                have hzk := hK.be.size
                clear hTV hTW hmap hK HM7
                by_cases hie : i < es7.length
                · have hS7 := sl_stayM (U := fun k => k ≠ M) HSL7.out (fun k o e u => HK.out.keep k o e u) (fun h0 b o e e2 => by have := HBK7.out b (by rw [e]; rfl); omega)
                  obtain ⟨gb, gof, x, hgA, hgb, hgx, hgc⟩ := hS7.at_ hie
                  have hxm := List.mem_of_getElem? hgx
                  obtain ⟨ha1, ha2, ha3, ha4⟩ := HGR7.out.at_ x hxm
                  have hrg := rawG_rng HOK6.out (by omega) x.id
                  rw [show (rawG x.id l5).ev = (grO x.id l5).ev from rfl, ← ha1, show (rawG x.id l5).wt = (grO x.id l5).wt from rfl, ← ha2] at hrg
                  have hrow := own_stayB (HGR7.out.ps x hxm) fun k o e eo => HK.out.keep k o eo (fun e2 => by have := HPB7.out x hxm k e; omega)
                  obtain ⟨pp, hpp⟩ : ∃ pp, (grO x.id l5).ps = pp := ⟨_, rfl⟩
                  have hpr : prs x.id l5 = pp := hpp
                  rw [hpp] at hrow
                  have hxn : x.n = pp.length := by
                    obtain ⟨_, _, e⟩ := own_sl hrow
                    simp only [Ge.sl, Value.slice.injEq] at e
                    exact e.2.1
                  have hppl : pp.length ≤ 1000 := by rw [← hpr]; have := prs_len x.id l5; omega
                  have HSUC := hide (show seenL l5 es7 (i + 1) = seenL l5 es7 i ++ pp by rw [seenL_succ hgx, hpr])
                  have HTV1 := hide (show sumL ((es7.take (i + 1)).map Ge.ev) = TV + x.ev by rw [take_succ_get hgx, List.map_append, sumL_append, HTV.out]; simp [sumL])
                  have HTW1 := hide (show sumL ((es7.take (i + 1)).map Ge.wt) = TW + x.wt by rw [take_succ_get hgx, List.map_append, sumL_append, HTW.out]; simp [sumL])
                  have HNS := hide (fun (k : Nat) (s : List UInt8) (hs : pp[k]? = some s) => show (seenL l5 es7 i ++ pp.take k).contains s = false by
                    have h9 := not_seen (x := x) HND6.out HID7.out hgx (by rw [hpr]; exact hs)
                    rw [hpr] at h9
                    exact h9)
                  have HIN := hide (fun (s : List UInt8) (hs : s ∈ pp) => show ∃ r ∈ l5, r.g = x.id ∧ r.p = s from mem_prs.1 (by rw [hpr]; exact hs))
                  obtain ⟨xi, xA, xn, xc, xe, xw, xf, xl⟩ := x
                  simp only at hxn hrg
                  subst hxn
                  have HROW := hide (show wr.ownsRow w6.heap.size 9 1 (.slice xA pp.length xc) pp.length (pp.map encStr) from hrow)
                  have hPB : ∀ k, (Value.slice xA pp.length xc).ownBlock = some k → M < k := HPB7.out _ hxm
                  have c0 : wr.cell? ⟨gb, gof + i * 6, none⟩ = some (.int .i64 xi) := by simpa using hgc 0 _ rfl
                  have c1 : wr.cell? ⟨gb, gof + i * 6 + 1, none⟩ = some (.slice xA pp.length xc) := hgc 1 _ rfl
                  have c2 : wr.cell? ⟨gb, gof + i * 6 + 2, none⟩ = some (.int .i64 xe) := hgc 2 _ rfl
                  have c3 : wr.cell? ⟨gb, gof + i * 6 + 3, none⟩ = some (.int .i64 xw) := hgc 3 _ rfl
                  have c4 : wr.cell? ⟨gb, gof + i * 6 + 4, none⟩ = some (.int .i64 xf) := hgc 4 _ rfl
                  have c5 : wr.cell? ⟨gb, gof + i * 6 + 5, none⟩ = some (.int .i64 xl) := hgc 5 _ rfl
                  have hie' : (i : Int) < (es7.length : Int) := by omega
                  subst hgA
                  clear hS7 hgc hgx hxm ha1 ha2 ha3 ha4 hrow hpp hpr hgb
                  go_wp2_with (first | go_quiet (fail))
                  obtain ⟨wb, hwb⟩ : ∃ wb, (wr.alloc (.cells #[.int .i64 xi, .slice xA pp.length xc, .int .i64 xe, .int .i64 xw, .int .i64 xf, .int .i64 xl] 35)).drewN nq = wb := ⟨_, rfl⟩
                  have hbb : Below wr.heap.size wr wb := hwb ▸ below_drewN ((Below.refl _ _).alloc (Nat.le_refl _) _) nq
                  have hnb : wb.heap[wr.heap.size]? = some (.cells #[.int .i64 xi, .slice xA pp.length xc, .int .i64 xe, .int .i64 xw, .int .i64 xf, .int .i64 xl] 35 (0, 0)) := by rw [← hwb]; exact heap_alloc_new wr _
                  have hMr : M < wr.heap.size := by omega
                  have HMB := hide (HMAP.out.kept (grown_b hbb) (by simp))
                  have HKB := hide (HK.out.trans (Keep.of_below hbb (by omega)))
                  have HRB := hide (own_below HROW.out hbb)
                  have HNB := hide hnb
                  have hzb := hbb.size
                  obtain ⟨q7, hq7⟩ : ∃ q, wr.heap.size = q := ⟨_, rfl⟩
                  rw [hwb]
                  (try rw [hq7])
                  rw [hq7] at hMr HNB
                  clear hbb hnb hwb HMAP HK HROW c0 c1 c2 c3 c4 c5
                  go_loopw [151] (fun ti w4 => ∃ (k nm2 : Nat), k ≤ pp.length ∧ ti = .int .i64 (k : Int) ∧ w4.ownsMap (H := Unit) Tryd.prog 9 (plainElem Tryd.prog 4) M nm2 (seenD (seenL l5 es7 i ++ pp.take k)) ∧ nm2 ≤ nm + k ∧ Keep M (fun k => k = M) wb w4) (fun ti _ => pp.length - (intOf ti).toNat)
                  case atStart => exact ⟨0, nm, Nat.zero_le _, rfl, by rw [List.take_zero, List.append_nil]; exact HMB.out, by omega, Keep.refl _ _ _⟩
                  case round =>
                    obtain ⟨k, nm2, hk, rfl, hmap4, hnm2, hK4⟩ := hrel
                    have HM4 := hide hmap4
                    have HK4 := hide hK4
                    have hz4 := hK4.be.size
                    clear hmap4 hK4
                    by_cases hkp : k < pp.length
                    · have hrow4 := rowS (own_stayB HRB.out fun k o e eo => HK4.out.keep k o eo (fun e2 => by have := hPB k e; omega)) rfl
                      obtain ⟨pb, po, s, hpA, hpb, hsx, hsc⟩ := hrow4.at_ hkp
                      have e0 : wr.cell? ⟨pb, po + k, none⟩ = some (encStr s) := by simpa [se] using hsc 0 _ rfl
                      unfold encStr at e0
                      have hn4 := HK4.out.keep _ _ HNB.out (fun e2 => by omega)
                      have y0 : wr.cell? ⟨q7, 0, none⟩ = some (.int .i64 xi) := (block_cell hn4 0).trans rfl
                      obtain ⟨r, hr, hrg2, hrp⟩ := HIN.out s (List.mem_of_getElem? hsx)
                      have hssz : (⟨s.toArray⟩ : ByteArray).size ≤ maxLen := by
                        have h1 := HSZ6.out r hr
                        rw [hrp] at h1
                        simp only [ByteArray.size, List.size_toArray]
                        unfold maxLen
                        omega
                      have hS4 := HS5.out.keepM (fun k o hk e => (HK4.out.keep k o ((HKB.out.keep k o (HK57.out k o (hM ▸ hk) e) (fun e2 => by omega))) (fun e2 => by omega))) (by have := HKB.out.be.size; omega)
                      obtain ⟨mn4, la4, sv4, bk4, hbs4, _, _, _⟩ := hS4
                      have CO := hide (Of_any hbs4.bm ⟨s.toArray⟩ hssz r hr (by rw [hrp]))
                      rw [show r.g = xi from hrg2] at CO
                      have HKY := hide (key_s ⟨s.toArray⟩ hssz)
                      have hlk := seen_run HM4.out ⟨s.toArray⟩ HKY.out
                      rw [show (⟨s.toArray⟩ : ByteArray).data.toList = s from rfl, HNS.out k s hsx] at hlk
                      have HTKk := hide (show seenD (seenL l5 es7 i ++ pp.take (k + 1)) = (seenD (seenL l5 es7 i ++ pp.take k)).put (.string s) (.lit (.bool true)) by rw [take_succ_get hsx, ← List.append_assoc, seenD_snoc])
                      have hkp' : (k : Int) < (pp.length : Int) := by omega
                      have hnm3 : nm2 < 100000000 := by omega
                      subst hpA
                      clear hrow4 hsc hn4 hbs4 hr hrp hsx hrg2
                      go_wp2_with (first
                        | (go_at_call 12; refine CO.out.mono ?_; rintro e w8 ⟨rfl, rfl⟩)
                        | (at_mapUpdate; refine wpList_mapUpdate_own _ rfl _ _ _ 38 rfl 9 4 law_s Tryd.underlying38 _ M nm2 _ rfl HM4.out (by unfold maxLen; omega) _ _ _ rfl rfl HKY.out _ [] (plainElem_bool Tryd.underlying4 true) ?_; intro w9 hown9 hg9; have HO9 := hide hown9; have HG9 := hide hg9; clear hown9 hg9))
                      go_roundw
                      case rel =>
                        refine ⟨k + 1, nm2 + 1, by omega, by go_num, ?_, by omega, HK4.out.trans ⟨?_, fun j o e ne => (HG9.out.block j (lt_of_block e) (fun e2 => ne (by cases e2; rfl))).trans e⟩⟩
                        · rw [HTKk.out]; exact HO9.out
                        · exact (Below.refl M _).grown HG9.out (by omega) (fun j hj => by cases hj; exact Nat.le_refl _)
                      case measure => simp [intOf]; omega
                    · have hke : k = pp.length := by omega
                      have hkp' : ¬ (k : Int) < (pp.length : Int) := by omega
                      rw [hke, List.take_length, ← HSUC.out] at HM4
                      go_wp2_with (fail)
                      go_roundw
                      case rel => exact ⟨i + 1, nm2, by omega, by go_num, by rw [HTV1.out], by rw [HTW1.out], HM4.out, by omega, HKB.out.trans HK4.out⟩
                      case measure => simp [intOf]; omega
                · have hie2 : i = es7.length := by omega
                  have hie' : ¬ (i : Int) < (es7.length : Int) := by omega
                  have hTE : TV = SE := by rw [← HTV.out, hie2, List.take_length, HSUM7.out.1, HE5.out]
                  have hTW2 : TW = SW := by rw [← HTW.out, hie2, List.take_length, HSUM7.out.2, HW5.out]
                  have HSN := hide (HS5.out.keepM (fun k o hk e => HK.out.keep k o (HK57.out k o (hM ▸ hk) e) (fun e2 => by omega)) (by omega))
                  have HBN := hide (HB7.out.trans (HK.out.be.mono hz5))
                  clear HTV HTW HMAP HK
                  subst hTE hTW2
                  go_wp2_with (fail)
                  go_roundw
                  case rel => exact ⟨j + 1, ss5, l5, by omega, by go_num, HSN.out, by omega, HE5.out, HW5.out, HBN.out⟩
                  case measure => simp [intOf]; omega
            · have hs01 : (s0 == 0) = false := beq_eq_false_iff_ne.2 hs0
              by_cases hs1 : s0 = 1
              · subst hs1
                obtain ⟨k1, hk1, e1⟩ := rem_at s1 n (by omega)
                obtain ⟨gb, gof, x1, hgA, hgb, hx1, hc1⟩ := HSL.out.at_ hk1
                have hxm := List.mem_of_getElem? hx1
                have hrow := HGR.out.ps x1 hxm
                obtain ⟨pp, hpp⟩ : ∃ pp, (grO x1.id l2).ps = pp := ⟨_, rfl⟩
                have hpr : prs x1.id l2 = pp := hpp
                rw [hpp] at hrow
                have hxn : x1.n = pp.length := by
                  obtain ⟨_, _, e⟩ := own_sl hrow
                  simp only [Ge.sl, Value.slice.injEq] at e
                  exact e.2.1
                have hppl : pp.length ≤ 1000 := by rw [← hpr]; have := prs_len x1.id l2; omega
                have hpp0 : 0 < pp.length := by
                  obtain ⟨r, hr, hg⟩ := (HGR.out.gr.has x1.id).1 ⟨_, List.mem_map.2 ⟨x1, hxm, rfl⟩, rfl⟩
                  rw [← hpr]
                  exact List.length_pos_of_mem (mem_prs.2 ⟨r, hr, hg, rfl⟩)
                have HPZ := hide (show ∀ s ∈ pp, s.length ≤ maxLen from fun s hs => by
                  rw [← hpr] at hs
                  obtain ⟨r, hr, _, e⟩ := mem_prs.1 hs
                  have := HREC2.out.sz r hr
                  rw [← e]; unfold maxLen; omega)
                obtain ⟨k2, hk2, e2⟩ := rem_at s2 pp.length hpp0
                obtain ⟨xi, xA, xn, xc, xe, xw, xf, xl⟩ := x1
                simp only at hxn
                subst hxn
                have c0 : wg.cell? ⟨gb, gof + k1 * 6, none⟩ = some (.int .i64 xi) := by simpa using hc1 0 _ rfl
                have c1 : wg.cell? ⟨gb, gof + k1 * 6 + 1, none⟩ = some (.slice xA pp.length xc) := hc1 1 _ rfl
                have c2 : wg.cell? ⟨gb, gof + k1 * 6 + 2, none⟩ = some (.int .i64 xe) := hc1 2 _ rfl
                have c3 : wg.cell? ⟨gb, gof + k1 * 6 + 3, none⟩ = some (.int .i64 xw) := hc1 3 _ rfl
                have c4 : wg.cell? ⟨gb, gof + k1 * 6 + 4, none⟩ = some (.int .i64 xf) := hc1 4 _ rfl
                have c5 : wg.cell? ⟨gb, gof + k1 * 6 + 5, none⟩ = some (.int .i64 xl) := hc1 5 _ rfl
                obtain ⟨wb, hwb⟩ : ∃ wb, wg.alloc (.cells #[.int .i64 xi, .slice xA pp.length xc, .int .i64 xe, .int .i64 xw, .int .i64 xf, .int .i64 xl] 35) = wb := ⟨_, rfl⟩
                have hbb : Below wg.heap.size wg wb := hwb ▸ (Below.refl _ _).alloc (Nat.le_refl _) _
                have hnb : wb.heap[wg.heap.size]? = some (.cells #[.int .i64 xi, .slice xA pp.length xc, .int .i64 xe, .int .i64 xw, .int .i64 xf, .int .i64 xl] 35 (0, 0)) := hwb ▸ heap_alloc_new wg _
                have y0 : wb.cell? ⟨wg.heap.size, 0, none⟩ = some (.int .i64 xi) := (block_cell hnb 0).trans rfl
                have y1 : wb.cell? ⟨wg.heap.size, 1, none⟩ = some (.slice xA pp.length xc) := (block_cell hnb 1).trans rfl
                have y2 : wb.cell? ⟨q, 2, none⟩ = some (.int .i64 s2) := (block_cell (block_below HNG.out hbb) 2).trans rfl
                have hbd : Below wg.heap.size wg wb.drew := hbb.trans ((below_drewN (Below.refl wb.heap.size wb) 1).mono hbb.size)
                have HBD := hide (show Below B wg wb.drew from hbd.mono (by omega))
                have hrowd : wb.drew.ownsRow wa.heap.size 9 1 (.slice xA pp.length xc) pp.length (pp.map encStr) := own_below hrow hbd
                have CS := hide (Split_nx (HU.out.below hbd) (by omega) (by omega) xi xA k2 xc (pp.take k2) (sl_take (rowS hrowd rfl) (by omega)) (by unfold maxLen; omega) (fun s hs => HPZ.out s (List.mem_of_mem_take hs)) (fun h0 b o e => .inr (.inr (by
                  obtain ⟨cur, h9⟩ := row_blkB hrowd (k := b) (by show (Value.slice xA pp.length xc).ownBlock = some b; rw [e]; rfl)
                  exact ⟨cur, h9⟩))))
                subst hgA
                have hk1' : (k1 : Int) < (n : Int) := by omega
                have hk2' : (k2 : Int) < (pp.length : Int) := by omega
                have hrow9 : wg.ownsRow wa.heap.size 9 1 (.slice xA pp.length xc) pp.length (pp.map encStr) := hrow
                have hk2'' : (k2 : Int) ≤ (xc : Int) := by
                  obtain ⟨A9, c9, e9, _, h10, _⟩ := sl_row hrow9 rfl
                  cases e9
                  omega
                clear hrow9
                have hn02 : (n : Int) ≠ 0 := by omega
                have hp02 : (pp.length : Int) ≠ 0 := by omega
                obtain ⟨q8, hq8⟩ : ∃ q, wg.heap.size = q := ⟨_, rfl⟩
                rw [hq8] at y0 y1
                clear hc1 hx1 hrow hrowd hgb HU hnb hbb hbd hpp hpr hxm
                go_wp2_with (fail)
                (try rw [hwb])
                (try rw [hq8])
                refine wp_region_still_tail 13 (by kernel_rfl) (by kernel_rfl) ?_; simp only [List.take_succ_cons, List.take_zero, List.drop_succ_cons, List.drop_zero]; change wpStill _ _ wb.drew _ _ _; refine wpStill_of_quiet _ _ ?_; (repeat (go_big_quiet_step (fail))); refine wpQuiet_nil ?_; change wpList _ _ _ _ _ wb.drew
                go_wp2_with (fail)
                refine CS.out.mono ?_
                rintro e w5 ⟨zs, xs, rfl, hnx⟩
                have HNX := hide (hnx.of HBD.out)
                clear hnx CS c0 c1 c2 c3 c4 c5 y0 y1 y2 hwb hq8 HBD
                obtain ⟨ss5, l5, hS5, hss5, hE5, hW5, hb5⟩ := HNX.out
                have HB5 := hide (HBG.out.trans (hb5.mono hz1))
                have hz5 := HB5.out.size
                rw [HE2.out] at hE5
                rw [HW2.out] at hW5
                have HS5 := hide (show SJ B p B l ss5 l5 (40 + (j + 1)) w5 from hS5)
                have HE5 := hide hE5
                have HW5 := hide hW5
                clear HNX hS5 hE5 hW5 hb5 HBG HGR HSL HNG HE2 HW2 g0 g1 g2 HSUM HREC2
                have hmm := @run_makeMap Tryd.prog
                obtain ⟨w6, hw6⟩ : ∃ w6, w5.alloc (.map #[] 0) = w6 := ⟨_, rfl⟩
                have hb6 : Below w5.heap.size w5 w6 := hw6 ▸ (Below.refl _ _).alloc (Nat.le_refl _) _
                have HM6 := hide (show w6.ownsMap (H := Unit) Tryd.prog 9 (plainElem Tryd.prog 4) w5.heap.size 0 (seenD []) from hw6 ▸ World.ownsMap_made w5 _ _ _)
                have HS6 := hide (HS5.out.below hb6)
                have HB6 := hide (HB5.out.trans (hb6.mono hz5))
                obtain ⟨mn6, la6, sv6, bk6, hbs6, hrec6, hch6, hzB6⟩ := HS6.out
                have hlen6 := hrec6.len
                have HND6 := hide hrec6.nd
                have HOK6 := hide (hrec6.ok (by omega))
                have HSZ6 := hide hrec6.sz
                have CG6 := hide (Groups_any hbs6.bm hrec6.nd (by omega) (hrec6.ok (by omega)))
                have hM6 := HM6.out.lt
                obtain ⟨M, hM⟩ : ∃ M, w5.heap.size = M := ⟨_, rfl⟩
                rw [hM] at HM6 hM6 hz5
                have HB56 := hide hb6
                clear hbs6 hrec6 hch6 HB5 hb6
                go_wp2_with (fail)
                (try rw [hM])
                (try rw [hw6])
                refine CG6.out.mono ?_
                rintro e w7 ⟨v7, es7, rfl, hgr7, hbg7⟩
                obtain ⟨vA7, vc7, rfl, hsl7, hvc7⟩ := sl_of_own (f := Ge.cs) (sz := 6) (fun _ => rfl) rfl hgr7.own
                have HGR7 := hide hgr7
                have HSL7 := hide hsl7
                have HM7 := hide (HM6.out.kept (grown_b hbg7) (by simp))
                have HS7 := hide (HS6.out.below hbg7)
                have HB7 := hide (HB6.out.trans (hbg7.mono HB6.out.size))
                have HK57 := hide (show ∀ k o, k < M → w5.heap[k]? = some o → w7.heap[k]? = some o from fun k o _ e => block_below (block_below e HB56.out) hbg7)
                have hz7 := hbg7.size
                have hgl7 := len_g hgr7
                have HID7 := hide (ids_nodup hgr7)
                have HSUM7 := hide (sum_both hgr7)
                have HBK7 := hide (show ∀ k, (Value.slice vA7 es7.length vc7).ownBlock = some k → M < k from fun k e => by have := (hgr7.own.lt k e).1; omega)
                have HPB7 := hide (show ∀ x ∈ es7, ∀ k, x.sl.ownBlock = some k → M < k from fun x hx k e => by have := ((hgr7.ps x hx).lt k e).1; omega)
                have HGS7 := hide (fun j => grs_sums hgr7 HOK6.out (by omega) j)
                clear hgr7 hsl7 hbg7 CG6 HM6 HS6 HB6 hw6 hmm
                go_wp2_with (fail)
                go_loopw [17, 18, 136] (fun tn tw ti wr => ∃ (i nm : Nat), i ≤ es7.length ∧ ti = .int .i64 (i : Int) ∧ tn = .int .i64 (sumL ((es7.take i).map Ge.ev)) ∧ tw = .int .i64 (sumL ((es7.take i).map Ge.wt)) ∧ wr.ownsMap (H := Unit) Tryd.prog 9 (plainElem Tryd.prog 4) M nm (seenD (seenL l5 es7 i)) ∧ nm ≤ 1000 * i ∧ Keep M (fun k => k = M) w7 wr) (fun _ _ ti _ => es7.length - (intOf ti).toNat)
                case atStart => exact ⟨0, 0, Nat.zero_le _, rfl, rfl, rfl, HM7.out, Nat.zero_le _, Keep.refl _ _ _⟩
                case round =>
                  obtain ⟨i, nm, hi, rfl, rfl, rfl, hmap, hnm, hK⟩ := hrel
                  obtain ⟨⟨hsv0, hsv1⟩, hsw0, hsw1⟩ := HGS7.out i
                  obtain ⟨TV, hTV⟩ : ∃ TV, sumL ((es7.take i).map Ge.ev) = TV := ⟨_, rfl⟩
                  obtain ⟨TW, hTW⟩ : ∃ TW, sumL ((es7.take i).map Ge.wt) = TW := ⟨_, rfl⟩
                  rw [hTV] at hsv0 hsv1 ⊢
                  rw [hTW] at hsw0 hsw1 ⊢
                  have HTV := hide hTV
                  have HTW := hide hTW
                  have HMAP := hide hmap
                  have HK := hide hK
                  have hzk := hK.be.size
                  clear hTV hTW hmap hK HM7
                  by_cases hie : i < es7.length
                  · have hS7 := sl_stayM (U := fun k => k ≠ M) HSL7.out (fun k o e u => HK.out.keep k o e u) (fun h0 b o e e2 => by have := HBK7.out b (by rw [e]; rfl); omega)
                    obtain ⟨gb, gof, x, hgA, hgb, hgx, hgc⟩ := hS7.at_ hie
                    have hxm := List.mem_of_getElem? hgx
                    obtain ⟨ha1, ha2, ha3, ha4⟩ := HGR7.out.at_ x hxm
                    have hrg := rawG_rng HOK6.out (by omega) x.id
                    rw [show (rawG x.id l5).ev = (grO x.id l5).ev from rfl, ← ha1, show (rawG x.id l5).wt = (grO x.id l5).wt from rfl, ← ha2] at hrg
                    have hrow := own_stayB (HGR7.out.ps x hxm) fun k o e eo => HK.out.keep k o eo (fun e2 => by have := HPB7.out x hxm k e; omega)
                    obtain ⟨pp, hpp⟩ : ∃ pp, (grO x.id l5).ps = pp := ⟨_, rfl⟩
                    have hpr : prs x.id l5 = pp := hpp
                    rw [hpp] at hrow
                    have hxn : x.n = pp.length := by
                      obtain ⟨_, _, e⟩ := own_sl hrow
                      simp only [Ge.sl, Value.slice.injEq] at e
                      exact e.2.1
                    have hppl : pp.length ≤ 1000 := by rw [← hpr]; have := prs_len x.id l5; omega
                    have HSUC := hide (show seenL l5 es7 (i + 1) = seenL l5 es7 i ++ pp by rw [seenL_succ hgx, hpr])
                    have HTV1 := hide (show sumL ((es7.take (i + 1)).map Ge.ev) = TV + x.ev by rw [take_succ_get hgx, List.map_append, sumL_append, HTV.out]; simp [sumL])
                    have HTW1 := hide (show sumL ((es7.take (i + 1)).map Ge.wt) = TW + x.wt by rw [take_succ_get hgx, List.map_append, sumL_append, HTW.out]; simp [sumL])
                    have HNS := hide (fun (k : Nat) (s : List UInt8) (hs : pp[k]? = some s) => show (seenL l5 es7 i ++ pp.take k).contains s = false by
                      have h9 := not_seen (x := x) HND6.out HID7.out hgx (by rw [hpr]; exact hs)
                      rw [hpr] at h9
                      exact h9)
                    have HIN := hide (fun (s : List UInt8) (hs : s ∈ pp) => show ∃ r ∈ l5, r.g = x.id ∧ r.p = s from mem_prs.1 (by rw [hpr]; exact hs))
                    obtain ⟨xi, xA, xn, xc, xe, xw, xf, xl⟩ := x
                    simp only at hxn hrg
                    subst hxn
                    have HROW := hide (show wr.ownsRow w6.heap.size 9 1 (.slice xA pp.length xc) pp.length (pp.map encStr) from hrow)
                    have hPB : ∀ k, (Value.slice xA pp.length xc).ownBlock = some k → M < k := HPB7.out _ hxm
                    have c0 : wr.cell? ⟨gb, gof + i * 6, none⟩ = some (.int .i64 xi) := by simpa using hgc 0 _ rfl
                    have c1 : wr.cell? ⟨gb, gof + i * 6 + 1, none⟩ = some (.slice xA pp.length xc) := hgc 1 _ rfl
                    have c2 : wr.cell? ⟨gb, gof + i * 6 + 2, none⟩ = some (.int .i64 xe) := hgc 2 _ rfl
                    have c3 : wr.cell? ⟨gb, gof + i * 6 + 3, none⟩ = some (.int .i64 xw) := hgc 3 _ rfl
                    have c4 : wr.cell? ⟨gb, gof + i * 6 + 4, none⟩ = some (.int .i64 xf) := hgc 4 _ rfl
                    have c5 : wr.cell? ⟨gb, gof + i * 6 + 5, none⟩ = some (.int .i64 xl) := hgc 5 _ rfl
                    have hie' : (i : Int) < (es7.length : Int) := by omega
                    subst hgA
                    clear hS7 hgc hgx hxm ha1 ha2 ha3 ha4 hrow hpp hpr hgb
                    go_wp2_with (first | go_quiet (fail))
                    obtain ⟨wb, hwb⟩ : ∃ wb, (wr.alloc (.cells #[.int .i64 xi, .slice xA pp.length xc, .int .i64 xe, .int .i64 xw, .int .i64 xf, .int .i64 xl] 35)).drewN nq = wb := ⟨_, rfl⟩
                    have hbb : Below wr.heap.size wr wb := hwb ▸ below_drewN ((Below.refl _ _).alloc (Nat.le_refl _) _) nq
                    have hnb : wb.heap[wr.heap.size]? = some (.cells #[.int .i64 xi, .slice xA pp.length xc, .int .i64 xe, .int .i64 xw, .int .i64 xf, .int .i64 xl] 35 (0, 0)) := by rw [← hwb]; exact heap_alloc_new wr _
                    have hMr : M < wr.heap.size := by omega
                    have HMB := hide (HMAP.out.kept (grown_b hbb) (by simp))
                    have HKB := hide (HK.out.trans (Keep.of_below hbb (by omega)))
                    have HRB := hide (own_below HROW.out hbb)
                    have HNB := hide hnb
                    have hzb := hbb.size
                    obtain ⟨q7, hq7⟩ : ∃ q, wr.heap.size = q := ⟨_, rfl⟩
                    rw [hwb]
                    (try rw [hq7])
                    rw [hq7] at hMr HNB
                    clear hbb hnb hwb HMAP HK HROW c0 c1 c2 c3 c4 c5
                    go_loopw [151] (fun ti w4 => ∃ (k nm2 : Nat), k ≤ pp.length ∧ ti = .int .i64 (k : Int) ∧ w4.ownsMap (H := Unit) Tryd.prog 9 (plainElem Tryd.prog 4) M nm2 (seenD (seenL l5 es7 i ++ pp.take k)) ∧ nm2 ≤ nm + k ∧ Keep M (fun k => k = M) wb w4) (fun ti _ => pp.length - (intOf ti).toNat)
                    case atStart => exact ⟨0, nm, Nat.zero_le _, rfl, by rw [List.take_zero, List.append_nil]; exact HMB.out, by omega, Keep.refl _ _ _⟩
                    case round =>
                      obtain ⟨k, nm2, hk, rfl, hmap4, hnm2, hK4⟩ := hrel
                      have HM4 := hide hmap4
                      have HK4 := hide hK4
                      have hz4 := hK4.be.size
                      clear hmap4 hK4
                      by_cases hkp : k < pp.length
                      · have hrow4 := rowS (own_stayB HRB.out fun k o e eo => HK4.out.keep k o eo (fun e2 => by have := hPB k e; omega)) rfl
                        obtain ⟨pb, po, s, hpA, hpb, hsx, hsc⟩ := hrow4.at_ hkp
                        have e0 : wr.cell? ⟨pb, po + k, none⟩ = some (encStr s) := by simpa [se] using hsc 0 _ rfl
                        unfold encStr at e0
                        have hn4 := HK4.out.keep _ _ HNB.out (fun e2 => by omega)
                        have y0 : wr.cell? ⟨q7, 0, none⟩ = some (.int .i64 xi) := (block_cell hn4 0).trans rfl
                        obtain ⟨r, hr, hrg2, hrp⟩ := HIN.out s (List.mem_of_getElem? hsx)
                        have hssz : (⟨s.toArray⟩ : ByteArray).size ≤ maxLen := by
                          have h1 := HSZ6.out r hr
                          rw [hrp] at h1
                          simp only [ByteArray.size, List.size_toArray]
                          unfold maxLen
                          omega
                        have hS4 := HS5.out.keepM (fun k o hk e => (HK4.out.keep k o ((HKB.out.keep k o (HK57.out k o (hM ▸ hk) e) (fun e2 => by omega))) (fun e2 => by omega))) (by have := HKB.out.be.size; omega)
                        obtain ⟨mn4, la4, sv4, bk4, hbs4, _, _, _⟩ := hS4
                        have CO := hide (Of_any hbs4.bm ⟨s.toArray⟩ hssz r hr (by rw [hrp]))
                        rw [show r.g = xi from hrg2] at CO
                        have HKY := hide (key_s ⟨s.toArray⟩ hssz)
                        have hlk := seen_run HM4.out ⟨s.toArray⟩ HKY.out
                        rw [show (⟨s.toArray⟩ : ByteArray).data.toList = s from rfl, HNS.out k s hsx] at hlk
                        have HTKk := hide (show seenD (seenL l5 es7 i ++ pp.take (k + 1)) = (seenD (seenL l5 es7 i ++ pp.take k)).put (.string s) (.lit (.bool true)) by rw [take_succ_get hsx, ← List.append_assoc, seenD_snoc])
                        have hkp' : (k : Int) < (pp.length : Int) := by omega
                        have hnm3 : nm2 < 100000000 := by omega
                        subst hpA
                        clear hrow4 hsc hn4 hbs4 hr hrp hsx hrg2
                        go_wp2_with (first
                          | (go_at_call 12; refine CO.out.mono ?_; rintro e w8 ⟨rfl, rfl⟩)
                          | (at_mapUpdate; refine wpList_mapUpdate_own _ rfl _ _ _ 38 rfl 9 4 law_s Tryd.underlying38 _ M nm2 _ rfl HM4.out (by unfold maxLen; omega) _ _ _ rfl rfl HKY.out _ [] (plainElem_bool Tryd.underlying4 true) ?_; intro w9 hown9 hg9; have HO9 := hide hown9; have HG9 := hide hg9; clear hown9 hg9))
                        go_roundw
                        case rel =>
                          refine ⟨k + 1, nm2 + 1, by omega, by go_num, ?_, by omega, HK4.out.trans ⟨?_, fun j o e ne => (HG9.out.block j (lt_of_block e) (fun e2 => ne (by cases e2; rfl))).trans e⟩⟩
                          · rw [HTKk.out]; exact HO9.out
                          · exact (Below.refl M _).grown HG9.out (by omega) (fun j hj => by cases hj; exact Nat.le_refl _)
                        case measure => simp [intOf]; omega
                      · have hke : k = pp.length := by omega
                        have hkp' : ¬ (k : Int) < (pp.length : Int) := by omega
                        rw [hke, List.take_length, ← HSUC.out] at HM4
                        go_wp2_with (fail)
                        go_roundw
                        case rel => exact ⟨i + 1, nm2, by omega, by go_num, by rw [HTV1.out], by rw [HTW1.out], HM4.out, by omega, HKB.out.trans HK4.out⟩
                        case measure => simp [intOf]; omega
                  · have hie2 : i = es7.length := by omega
                    have hie' : ¬ (i : Int) < (es7.length : Int) := by omega
                    have hTE : TV = SE := by rw [← HTV.out, hie2, List.take_length, HSUM7.out.1, HE5.out]
                    have hTW2 : TW = SW := by rw [← HTW.out, hie2, List.take_length, HSUM7.out.2, HW5.out]
                    have HSN := hide (HS5.out.keepM (fun k o hk e => HK.out.keep k o (HK57.out k o (hM ▸ hk) e) (fun e2 => by omega)) (by omega))
                    have HBN := hide (HB7.out.trans (HK.out.be.mono hz5))
                    clear HTV HTW HMAP HK
                    subst hTE hTW2
                    go_wp2_with (fail)
                    go_roundw
                    case rel => exact ⟨j + 1, ss5, l5, by omega, by go_num, HSN.out, by omega, HE5.out, HW5.out, HBN.out⟩
                    case measure => simp [intOf]; omega
              · have hs11 : (s0 == 1) = false := beq_eq_false_iff_ne.2 hs1
                have CU := hide (Undo_nx HU.out (by omega) (by omega))
                clear HU
                go_wp2_with (fail)
                refine CU.out.mono ?_
                rintro e w5 ⟨bu, rfl, hnx⟩
                have HNX := hide hnx
                clear hnx CU
                obtain ⟨ss5, l5, hS5, hss5, hE5, hW5, hb5⟩ := HNX.out
                have HB5 := hide (HBG.out.trans (hb5.mono hz1))
                have hz5 := HB5.out.size
                rw [HE2.out] at hE5
                rw [HW2.out] at hW5
                have HS5 := hide (show SJ B p B l ss5 l5 (40 + (j + 1)) w5 from hS5)
                have HE5 := hide hE5
                have HW5 := hide hW5
                clear HNX hS5 hE5 hW5 hb5 HBG HGR HSL HNG HE2 HW2 g0 g1 g2 HSUM HREC2
                have hmm := @run_makeMap Tryd.prog
                obtain ⟨w6, hw6⟩ : ∃ w6, w5.alloc (.map #[] 0) = w6 := ⟨_, rfl⟩
                have hb6 : Below w5.heap.size w5 w6 := hw6 ▸ (Below.refl _ _).alloc (Nat.le_refl _) _
                have HM6 := hide (show w6.ownsMap (H := Unit) Tryd.prog 9 (plainElem Tryd.prog 4) w5.heap.size 0 (seenD []) from hw6 ▸ World.ownsMap_made w5 _ _ _)
                have HS6 := hide (HS5.out.below hb6)
                have HB6 := hide (HB5.out.trans (hb6.mono hz5))
                obtain ⟨mn6, la6, sv6, bk6, hbs6, hrec6, hch6, hzB6⟩ := HS6.out
                have hlen6 := hrec6.len
                have HND6 := hide hrec6.nd
                have HOK6 := hide (hrec6.ok (by omega))
                have HSZ6 := hide hrec6.sz
                have CG6 := hide (Groups_any hbs6.bm hrec6.nd (by omega) (hrec6.ok (by omega)))
                have hM6 := HM6.out.lt
                obtain ⟨M, hM⟩ : ∃ M, w5.heap.size = M := ⟨_, rfl⟩
                rw [hM] at HM6 hM6 hz5
                have HB56 := hide hb6
                clear hbs6 hrec6 hch6 HB5 hb6
                go_wp2_with (fail)
                (try rw [hM])
                (try rw [hw6])
                refine CG6.out.mono ?_
                rintro e w7 ⟨v7, es7, rfl, hgr7, hbg7⟩
                obtain ⟨vA7, vc7, rfl, hsl7, hvc7⟩ := sl_of_own (f := Ge.cs) (sz := 6) (fun _ => rfl) rfl hgr7.own
                have HGR7 := hide hgr7
                have HSL7 := hide hsl7
                have HM7 := hide (HM6.out.kept (grown_b hbg7) (by simp))
                have HS7 := hide (HS6.out.below hbg7)
                have HB7 := hide (HB6.out.trans (hbg7.mono HB6.out.size))
                have HK57 := hide (show ∀ k o, k < M → w5.heap[k]? = some o → w7.heap[k]? = some o from fun k o _ e => block_below (block_below e HB56.out) hbg7)
                have hz7 := hbg7.size
                have hgl7 := len_g hgr7
                have HID7 := hide (ids_nodup hgr7)
                have HSUM7 := hide (sum_both hgr7)
                have HBK7 := hide (show ∀ k, (Value.slice vA7 es7.length vc7).ownBlock = some k → M < k from fun k e => by have := (hgr7.own.lt k e).1; omega)
                have HPB7 := hide (show ∀ x ∈ es7, ∀ k, x.sl.ownBlock = some k → M < k from fun x hx k e => by have := ((hgr7.ps x hx).lt k e).1; omega)
                have HGS7 := hide (fun j => grs_sums hgr7 HOK6.out (by omega) j)
                clear hgr7 hsl7 hbg7 CG6 HM6 HS6 HB6 hw6 hmm
                go_wp2_with (fail)
                go_loopw [17, 18, 136] (fun tn tw ti wr => ∃ (i nm : Nat), i ≤ es7.length ∧ ti = .int .i64 (i : Int) ∧ tn = .int .i64 (sumL ((es7.take i).map Ge.ev)) ∧ tw = .int .i64 (sumL ((es7.take i).map Ge.wt)) ∧ wr.ownsMap (H := Unit) Tryd.prog 9 (plainElem Tryd.prog 4) M nm (seenD (seenL l5 es7 i)) ∧ nm ≤ 1000 * i ∧ Keep M (fun k => k = M) w7 wr) (fun _ _ ti _ => es7.length - (intOf ti).toNat)
                case atStart => exact ⟨0, 0, Nat.zero_le _, rfl, rfl, rfl, HM7.out, Nat.zero_le _, Keep.refl _ _ _⟩
                case round =>
                  obtain ⟨i, nm, hi, rfl, rfl, rfl, hmap, hnm, hK⟩ := hrel
                  obtain ⟨⟨hsv0, hsv1⟩, hsw0, hsw1⟩ := HGS7.out i
                  obtain ⟨TV, hTV⟩ : ∃ TV, sumL ((es7.take i).map Ge.ev) = TV := ⟨_, rfl⟩
                  obtain ⟨TW, hTW⟩ : ∃ TW, sumL ((es7.take i).map Ge.wt) = TW := ⟨_, rfl⟩
                  rw [hTV] at hsv0 hsv1 ⊢
                  rw [hTW] at hsw0 hsw1 ⊢
                  have HTV := hide hTV
                  have HTW := hide hTW
                  have HMAP := hide hmap
                  have HK := hide hK
                  have hzk := hK.be.size
                  clear hTV hTW hmap hK HM7
                  by_cases hie : i < es7.length
                  · have hS7 := sl_stayM (U := fun k => k ≠ M) HSL7.out (fun k o e u => HK.out.keep k o e u) (fun h0 b o e e2 => by have := HBK7.out b (by rw [e]; rfl); omega)
                    obtain ⟨gb, gof, x, hgA, hgb, hgx, hgc⟩ := hS7.at_ hie
                    have hxm := List.mem_of_getElem? hgx
                    obtain ⟨ha1, ha2, ha3, ha4⟩ := HGR7.out.at_ x hxm
                    have hrg := rawG_rng HOK6.out (by omega) x.id
                    rw [show (rawG x.id l5).ev = (grO x.id l5).ev from rfl, ← ha1, show (rawG x.id l5).wt = (grO x.id l5).wt from rfl, ← ha2] at hrg
                    have hrow := own_stayB (HGR7.out.ps x hxm) fun k o e eo => HK.out.keep k o eo (fun e2 => by have := HPB7.out x hxm k e; omega)
                    obtain ⟨pp, hpp⟩ : ∃ pp, (grO x.id l5).ps = pp := ⟨_, rfl⟩
                    have hpr : prs x.id l5 = pp := hpp
                    rw [hpp] at hrow
                    have hxn : x.n = pp.length := by
                      obtain ⟨_, _, e⟩ := own_sl hrow
                      simp only [Ge.sl, Value.slice.injEq] at e
                      exact e.2.1
                    have hppl : pp.length ≤ 1000 := by rw [← hpr]; have := prs_len x.id l5; omega
                    have HSUC := hide (show seenL l5 es7 (i + 1) = seenL l5 es7 i ++ pp by rw [seenL_succ hgx, hpr])
                    have HTV1 := hide (show sumL ((es7.take (i + 1)).map Ge.ev) = TV + x.ev by rw [take_succ_get hgx, List.map_append, sumL_append, HTV.out]; simp [sumL])
                    have HTW1 := hide (show sumL ((es7.take (i + 1)).map Ge.wt) = TW + x.wt by rw [take_succ_get hgx, List.map_append, sumL_append, HTW.out]; simp [sumL])
                    have HNS := hide (fun (k : Nat) (s : List UInt8) (hs : pp[k]? = some s) => show (seenL l5 es7 i ++ pp.take k).contains s = false by
                      have h9 := not_seen (x := x) HND6.out HID7.out hgx (by rw [hpr]; exact hs)
                      rw [hpr] at h9
                      exact h9)
                    have HIN := hide (fun (s : List UInt8) (hs : s ∈ pp) => show ∃ r ∈ l5, r.g = x.id ∧ r.p = s from mem_prs.1 (by rw [hpr]; exact hs))
                    obtain ⟨xi, xA, xn, xc, xe, xw, xf, xl⟩ := x
                    simp only at hxn hrg
                    subst hxn
                    have HROW := hide (show wr.ownsRow w6.heap.size 9 1 (.slice xA pp.length xc) pp.length (pp.map encStr) from hrow)
                    have hPB : ∀ k, (Value.slice xA pp.length xc).ownBlock = some k → M < k := HPB7.out _ hxm
                    have c0 : wr.cell? ⟨gb, gof + i * 6, none⟩ = some (.int .i64 xi) := by simpa using hgc 0 _ rfl
                    have c1 : wr.cell? ⟨gb, gof + i * 6 + 1, none⟩ = some (.slice xA pp.length xc) := hgc 1 _ rfl
                    have c2 : wr.cell? ⟨gb, gof + i * 6 + 2, none⟩ = some (.int .i64 xe) := hgc 2 _ rfl
                    have c3 : wr.cell? ⟨gb, gof + i * 6 + 3, none⟩ = some (.int .i64 xw) := hgc 3 _ rfl
                    have c4 : wr.cell? ⟨gb, gof + i * 6 + 4, none⟩ = some (.int .i64 xf) := hgc 4 _ rfl
                    have c5 : wr.cell? ⟨gb, gof + i * 6 + 5, none⟩ = some (.int .i64 xl) := hgc 5 _ rfl
                    have hie' : (i : Int) < (es7.length : Int) := by omega
                    subst hgA
                    clear hS7 hgc hgx hxm ha1 ha2 ha3 ha4 hrow hpp hpr hgb
                    go_wp2_with (first | go_quiet (fail))
                    obtain ⟨wb, hwb⟩ : ∃ wb, (wr.alloc (.cells #[.int .i64 xi, .slice xA pp.length xc, .int .i64 xe, .int .i64 xw, .int .i64 xf, .int .i64 xl] 35)).drewN nq = wb := ⟨_, rfl⟩
                    have hbb : Below wr.heap.size wr wb := hwb ▸ below_drewN ((Below.refl _ _).alloc (Nat.le_refl _) _) nq
                    have hnb : wb.heap[wr.heap.size]? = some (.cells #[.int .i64 xi, .slice xA pp.length xc, .int .i64 xe, .int .i64 xw, .int .i64 xf, .int .i64 xl] 35 (0, 0)) := by rw [← hwb]; exact heap_alloc_new wr _
                    have hMr : M < wr.heap.size := by omega
                    have HMB := hide (HMAP.out.kept (grown_b hbb) (by simp))
                    have HKB := hide (HK.out.trans (Keep.of_below hbb (by omega)))
                    have HRB := hide (own_below HROW.out hbb)
                    have HNB := hide hnb
                    have hzb := hbb.size
                    obtain ⟨q7, hq7⟩ : ∃ q, wr.heap.size = q := ⟨_, rfl⟩
                    rw [hwb]
                    (try rw [hq7])
                    rw [hq7] at hMr HNB
                    clear hbb hnb hwb HMAP HK HROW c0 c1 c2 c3 c4 c5
                    go_loopw [151] (fun ti w4 => ∃ (k nm2 : Nat), k ≤ pp.length ∧ ti = .int .i64 (k : Int) ∧ w4.ownsMap (H := Unit) Tryd.prog 9 (plainElem Tryd.prog 4) M nm2 (seenD (seenL l5 es7 i ++ pp.take k)) ∧ nm2 ≤ nm + k ∧ Keep M (fun k => k = M) wb w4) (fun ti _ => pp.length - (intOf ti).toNat)
                    case atStart => exact ⟨0, nm, Nat.zero_le _, rfl, by rw [List.take_zero, List.append_nil]; exact HMB.out, by omega, Keep.refl _ _ _⟩
                    case round =>
                      obtain ⟨k, nm2, hk, rfl, hmap4, hnm2, hK4⟩ := hrel
                      have HM4 := hide hmap4
                      have HK4 := hide hK4
                      have hz4 := hK4.be.size
                      clear hmap4 hK4
                      by_cases hkp : k < pp.length
                      · have hrow4 := rowS (own_stayB HRB.out fun k o e eo => HK4.out.keep k o eo (fun e2 => by have := hPB k e; omega)) rfl
                        obtain ⟨pb, po, s, hpA, hpb, hsx, hsc⟩ := hrow4.at_ hkp
                        have e0 : wr.cell? ⟨pb, po + k, none⟩ = some (encStr s) := by simpa [se] using hsc 0 _ rfl
                        unfold encStr at e0
                        have hn4 := HK4.out.keep _ _ HNB.out (fun e2 => by omega)
                        have y0 : wr.cell? ⟨q7, 0, none⟩ = some (.int .i64 xi) := (block_cell hn4 0).trans rfl
                        obtain ⟨r, hr, hrg2, hrp⟩ := HIN.out s (List.mem_of_getElem? hsx)
                        have hssz : (⟨s.toArray⟩ : ByteArray).size ≤ maxLen := by
                          have h1 := HSZ6.out r hr
                          rw [hrp] at h1
                          simp only [ByteArray.size, List.size_toArray]
                          unfold maxLen
                          omega
                        have hS4 := HS5.out.keepM (fun k o hk e => (HK4.out.keep k o ((HKB.out.keep k o (HK57.out k o (hM ▸ hk) e) (fun e2 => by omega))) (fun e2 => by omega))) (by have := HKB.out.be.size; omega)
                        obtain ⟨mn4, la4, sv4, bk4, hbs4, _, _, _⟩ := hS4
                        have CO := hide (Of_any hbs4.bm ⟨s.toArray⟩ hssz r hr (by rw [hrp]))
                        rw [show r.g = xi from hrg2] at CO
                        have HKY := hide (key_s ⟨s.toArray⟩ hssz)
                        have hlk := seen_run HM4.out ⟨s.toArray⟩ HKY.out
                        rw [show (⟨s.toArray⟩ : ByteArray).data.toList = s from rfl, HNS.out k s hsx] at hlk
                        have HTKk := hide (show seenD (seenL l5 es7 i ++ pp.take (k + 1)) = (seenD (seenL l5 es7 i ++ pp.take k)).put (.string s) (.lit (.bool true)) by rw [take_succ_get hsx, ← List.append_assoc, seenD_snoc])
                        have hkp' : (k : Int) < (pp.length : Int) := by omega
                        have hnm3 : nm2 < 100000000 := by omega
                        subst hpA
                        clear hrow4 hsc hn4 hbs4 hr hrp hsx hrg2
                        go_wp2_with (first
                          | (go_at_call 12; refine CO.out.mono ?_; rintro e w8 ⟨rfl, rfl⟩)
                          | (at_mapUpdate; refine wpList_mapUpdate_own _ rfl _ _ _ 38 rfl 9 4 law_s Tryd.underlying38 _ M nm2 _ rfl HM4.out (by unfold maxLen; omega) _ _ _ rfl rfl HKY.out _ [] (plainElem_bool Tryd.underlying4 true) ?_; intro w9 hown9 hg9; have HO9 := hide hown9; have HG9 := hide hg9; clear hown9 hg9))
                        go_roundw
                        case rel =>
                          refine ⟨k + 1, nm2 + 1, by omega, by go_num, ?_, by omega, HK4.out.trans ⟨?_, fun j o e ne => (HG9.out.block j (lt_of_block e) (fun e2 => ne (by cases e2; rfl))).trans e⟩⟩
                          · rw [HTKk.out]; exact HO9.out
                          · exact (Below.refl M _).grown HG9.out (by omega) (fun j hj => by cases hj; exact Nat.le_refl _)
                        case measure => simp [intOf]; omega
                      · have hke : k = pp.length := by omega
                        have hkp' : ¬ (k : Int) < (pp.length : Int) := by omega
                        rw [hke, List.take_length, ← HSUC.out] at HM4
                        go_wp2_with (fail)
                        go_roundw
                        case rel => exact ⟨i + 1, nm2, by omega, by go_num, by rw [HTV1.out], by rw [HTW1.out], HM4.out, by omega, HKB.out.trans HK4.out⟩
                        case measure => simp [intOf]; omega
                  · have hie2 : i = es7.length := by omega
                    have hie' : ¬ (i : Int) < (es7.length : Int) := by omega
                    have hTE : TV = SE := by rw [← HTV.out, hie2, List.take_length, HSUM7.out.1, HE5.out]
                    have hTW2 : TW = SW := by rw [← HTW.out, hie2, List.take_length, HSUM7.out.2, HW5.out]
                    have HSN := hide (HS5.out.keepM (fun k o hk e => HK.out.keep k o (HK57.out k o (hM ▸ hk) e) (fun e2 => by omega)) (by omega))
                    have HBN := hide (HB7.out.trans (HK.out.be.mono hz5))
                    clear HTV HTW HMAP HK
                    subst hTE hTW2
                    go_wp2_with (fail)
                    go_roundw
                    case rel => exact ⟨j + 1, ss5, l5, by omega, by go_num, HSN.out, by omega, HE5.out, HW5.out, HBN.out⟩
                    case measure => simp [intOf]; omega
        · have hjm' : ¬ (j : Int) < (mm : Int) := by omega
          go_wp2_with (fail)
          go_ret
          exact ⟨rfl, HBR.out⟩
end Go.Proofs.YtmogfmpcfdlpfaaDoor.Bk
