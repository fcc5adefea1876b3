/- The law RateKeeps: a gate with one quota keeps no more than its bucket had and what came into it. -/
import Derived.Test.YtkoijhecahebgaaDoorGtKpL
import Derived.Test.YtkoijhecahebgaaDoorGtTls
import Derived.Test.YtkoijhecahebgaaDoorGtNeB
import Derived.Test.YtkoijhecahebgaaDoorGtStd
namespace Go.Proofs.YtkoijhecahebgaaDoor
open Go.RowKit Go.Maps
set_option linter.unusedVariables false
set_option linter.unusedSimpArgs false
theorem newE_ok {s a e at_ : Int} (h : newE [qAll s a e] [] at_ = 0) : bkErr s a e = 0 ∧ 0 ≤ at_ ∧ at_ ≤ 3155759999 := by
  unfold newE at h
  split at h
  · rename_i h1
    have h2 : qtErrAt [qAll s a e] 0 = 0 := by
      rw [qtErr, if_neg (by show ¬ 50 < 1; decide)] at h1
      exact firstErr_all h1 0 (by show 0 < 1; decide)
    have h3 : qtErrAt [qAll s a e] 0 = bkErr s a e := qtErrAt_bkt (x := qAll s a e) rfl (show nameB ⟨#[97, 108, 108]⟩ = true from by decide) rfl (show keyErr ⟨#[]⟩ = 0 from by decide)
    rw [h3] at h2
    have h4 : rtErr [] = 0 := rfl
    rw [if_pos h4] at h
    split at h
    · cases h
    · rename_i h5
      simp [outsideB] at h5
      exact ⟨h2, by omega, by omega⟩
  · rename_i h1; exact absurd h h1
theorem sl_all (w : World) (s a e : Int) : Sl (w.alloc (.cells #[.string ⟨#[97, 108, 108]⟩, .string ⟨#[]⟩, .int .i64 s, .int .i64 a, .int .i64 e] 58)) (w.alloc (.cells #[.string ⟨#[97, 108, 108]⟩, .string ⟨#[]⟩, .int .i64 s, .int .i64 a, .int .i64 e] 58)).heap.size Qt.cs 5 (some ⟨w.heap.size, 0, none⟩) 1 [qAll s a e] := by
  refine ⟨rfl, fun _ => ⟨w.heap.size, 0, rfl, by simp, fun i x hi j v hv => ?_⟩⟩
  match i, hi with
  | 0, hi =>
    simp at hi
    subst hi
    rw [show 0 + 0 * 5 + j = j by omega, block_cell (heap_alloc_new w _) j]
    simpa [Qt.cs, qAll] using hv
  | i + 1, hi => simp at hi
set_option maxRecDepth 100000 in
set_option maxHeartbeats 8000000 in
theorem RateKeeps_any (s a e at_ : Int) (A : Option Addr) (n c : Nat) (ws : List Int) (w : World) (hn : n ≤ maxLen) (hnc : n ≤ c) (hl : Sl w w.heap.size ci 1 A n ws) :
    Calls Tryd.prog 4 #[.agg #[.int .i64 s, .int .i64 a, .int .i64 e], .int .i64 at_, .slice A n c] w fun x w' => x = .returned (.bool true) ∧ Below w.heap.size w w' := by
  have HL := hide hl
  have hln := hl.len
  have q : ∀ (w : World) (a : Option Addr), (binOp .eql 25 (.pointer a) (.pointer none)).run Tryd.prog w = .ok (.bool a.isNone) w := fun w a => by
    cases a <;> kernel_rfl
  obtain ⟨kk, hkk⟩ : ∃ kk : Nat, min n 60 = kk := ⟨_, rfl⟩
  have hk60 : kk ≤ 60 := by omega
  have hk2 : kk ≤ n := by omega
  clear hl
  go_enter Tryd.func4, Tryd.ntmps4
  go_wp2_with (first | (go_at_call 20; refine (awakeRate_any _).mono ?_; rintro e w1 ⟨rfl, hw1⟩; have hb1 := block_below (heap_alloc_new w (.cells #[.int .i64 s, .int .i64 a, .int .i64 e] 54)) hw1; have HB1 := hide hb1; have y0 : w1.cell? ⟨w.heap.size, 0, none⟩ = some (.int .i64 s) := (block_cell hb1 0).trans rfl; have y1 : w1.cell? ⟨w.heap.size, 1, none⟩ = some (.int .i64 a) := (block_cell hb1 1).trans rfl; have y2 : w1.cell? ⟨w.heap.size, 2, none⟩ = some (.int .i64 e) := (block_cell hb1 2).trans rfl; have HW1 := hide (((Below.refl _ w).alloc (Nat.le_refl _) _).trans (hw1.mono (by simp))); clear hw1 hb1))
  obtain ⟨w2, hw2⟩ : ∃ w2, w1.alloc (.cells #[.string ⟨#[97, 108, 108]⟩, .string ⟨#[]⟩, .int .i64 s, .int .i64 a, .int .i64 e] 58) = w2 := ⟨_, rfl⟩
  have hsq : Sl w2 w2.heap.size Qt.cs 5 (some ⟨w1.heap.size, 0, none⟩) 1 [qAll s a e] := hw2 ▸ sl_all w1 s a e
  have hqf : QtFit [qAll s a e] := fun x hx => by
    rw [List.mem_singleton.1 hx]
    exact ⟨show (⟨#[97, 108, 108]⟩ : ByteArray).size ≤ maxLen by decide, show (⟨#[]⟩ : ByteArray).size ≤ maxLen by decide⟩
  have hb12 : Below w1.heap.size w1 w2 := hw2 ▸ (Below.refl _ _).alloc (Nat.le_refl _) _
  have hz1 := HW1.out.size
  have HW2 := hide (HW1.out.trans (hb12.mono hz1))
  have HB2 := hide (block_below HB1.out hb12)
  have hbl := lt_of_block HB2.out
  rw [hw2]
  by_cases hE : newE [qAll s a e] [] at_ = 0
  · obtain ⟨hbk, ha0, ha1⟩ := newE_ok hE
    have HN := hide (NewGate_ok 1 1 0 0 (some ⟨w1.heap.size, 0, none⟩) none [qAll s a e] [] at_ w2 (by decide) hsq hqf (by decide) (Sl.nil _ _ _ _ _) (fun x hx => by cases hx) hE)
    have HLV := hide (LvOk.full (q := qAll s a e) hbk ha0 ha1)
    obtain ⟨b1, b2, b3, b4, b5, b6⟩ := bkOk hbk
    clear hsq hqf hb12 hE hw2
    refine HN.out.mono ?_
    rintro e0 w3 ⟨p, qc, lc, rb, tb, m, qA, lA, RD, rfl, hmade⟩
    have HG := hide (GP.made hmade)
    have HW3 := hide (HW2.out.trans (hmade.be.mono HW2.out.size))
    have HB3 := hide hmade.be
    clear hmade HN
    go_wp2_with (fail)
    go_loopw [1, 9, 41] (fun tA tC tI wr => ∃ (i : Nat) (g cc l : Int) (x : Lv) (TL : List Tl) (tn : Nat), tA = .int .i64 g ∧ tC = .int .i64 cc ∧ tI = .int .i64 (i : Int) ∧ i ≤ kk ∧ 0 ≤ cc ∧ 0 ≤ l ∧ cc + l ≤ i ∧ tn ≤ i ∧ at_ ≤ g ∧ g ≤ 3155759999 ∧ x.t ≤ g ∧ LvOk (qAll s a e) x ∧ Kp s a e at_ cc x ∧ Tsh TL cc l ∧ GP w2.heap.size wr p 1 qc lc rb tb m tn qA lA RD [qAll s a e] [] g [x] TL ∧ Below w2.heap.size w2 wr)
      (fun _ _ i _ => kk - (intOf i).toNat)
    case atStart => exact ⟨0, at_, 0, 0, fullL at_ (qAll s a e), [], 0, rfl, rfl, rfl, Nat.zero_le _, by decide, by decide, by decide, by decide, Int.le_refl _, ha1, Int.le_refl _, HLV.out, Kp.start s a e at_, .inl ⟨rfl, rfl, rfl⟩, HG.out, HB3.out⟩
    case round =>
      obtain ⟨i, g, cc, l, x, TL, tn, rfl, rfl, rfl, hi, hc0, hl0, hcl, htn, hag, hgm, hxg, hok, hKp, hTs, hG, hBW⟩ := hrel
      have HBX := hide (block_below HB2.out hBW)
      have HBW := hide hBW
      have hzr := hBW.size
      have HG4 := hide hG
      have HTs := hide hTs
      have HKp := hide hKp
      by_cases hlt : i < kk
      · have hki : (i : Int) < (kk : Int) := by omega
        obtain ⟨bb, oo, d, rfl, hbb, hx, hc⟩ := (HL.out.below (HW2.out.trans (hBW.mono HW2.out.size))).at_ (show i < n by omega)
        have d0 : wr.cell? ⟨bb, oo + i, none⟩ = some (.int .i64 d) := by simpa using hc 0 _ rfl
        clear hc hx hG hBW hTs hKp
        by_cases hd0 : d < 0
        · go_wp2_with (fail)
          go_roundw
          case rel => exact ⟨i + 1, g, cc, l, x, TL, tn, rfl, rfl, by go_num, by omega, hc0, hl0, by omega, by omega, hag, hgm, hxg, hok, HKp.out, HTs.out, HG4.out, HBW.out⟩
          case measure => simp [intOf]; omega
        · by_cases hd1 : 3155759999 - g < d
          · go_wp2_with (fail)
            go_roundw
            case rel => exact ⟨i + 1, g, cc, l, x, TL, tn, rfl, rfl, by go_num, by omega, hc0, hl0, by omega, by omega, hag, hgm, hxg, hok, HKp.out, HTs.out, HG4.out, HBW.out⟩
            case measure => simp [intOf]; omega
          · have CA := hide (Ask_gp HG4.out (g + d) ⟨#[120]⟩ ⟨#[107]⟩ rfl rfl (fun j q0 y hq0 hy => by
                match j, hq0, hy with
                | 0, hq0, hy => simp at hq0 hy; subst hq0; subst hy; exact hok
                | j + 1, hq0, hy => simp at hq0) (by decide) hzr (fun y hy => by rw [List.mem_singleton.1 hy]; exact hxg) (fun y hy => by rw [List.mem_singleton.1 hy]; exact (show (⟨#[97, 108, 108]⟩ : ByteArray).size ≤ maxLen by decide)) ⟨Int.le_refl _, (show (0 : Int) ≤ 1000000 by decide)⟩ (by omega) (fun y => HTs.out.get hc0 hl0 (by omega) y) (by decide) (by decide) (by decide) (by
                unfold momE
                rw [if_neg (by simp [outsideB]; omega), if_neg (by omega)]))
            have CA2 := CA.out
            rw [ask_one] at CA2
            clear CA
            by_cases hz : (pourL (qAll s a e) (g + d) x).h = 0
            · rw [if_pos hz] at CA2
              simp only [askV] at CA2
              have CA := hide CA2
              clear CA2 hz
              go_wp2_with (first | (go_at_call 11; refine CA.out.mono ?_; rintro e4 w4 ⟨rfl, hG5, hB5⟩; have HG5 := hide hG5; have HB5 := hide hB5; clear hG5 hB5 CA))
              go_roundw
              case rel => exact ⟨i + 1, g + d, cc, l + 1, x, _, tn + 1, by go_num, rfl, by go_num, by omega, hc0, by omega, by omega, by omega, by omega, by omega, by omega, hok, HKp.out, HTs.out.lim, HG5.out, HBW.out.trans HB5.out⟩
              case measure => simp [intOf]; omega
            · rw [if_neg hz] at CA2
              simp only [askV] at CA2
              have CA := hide CA2
              have HOK := hide ((hok.pour (t := g + d) (by omega) (by omega)).less hz)
              have HK5 := hide (HKp.out.pour hok (show x.t ≤ g + d by omega)).less
              clear CA2 hz
              go_wp2_with (first | (go_at_call 11; refine CA.out.mono ?_; rintro e4 w4 ⟨rfl, hG5, hB5⟩; have HG5 := hide hG5; have HB5 := hide hB5; clear hG5 hB5 CA))
              go_roundw
              case rel => exact ⟨i + 1, g + d, cc + 1, l, _, _, tn + 1, by go_num, by go_num, by go_num, by omega, by omega, by omega, by omega, by omega, by omega, by omega, Int.le_refl _, HOK.out, HK5.out, HTs.out.kept, HG5.out, HBW.out.trans HB5.out⟩
              case measure => simp [intOf]; omega
      · have hki : ¬ (i : Int) < (kk : Int) := by omega
        obtain ⟨TD, hT, hTD⟩ := hG.tal
        have CT := hide (Tallies_any p tb tn TD TL wr ((block_cell hG.box 4).trans rfl) hT hTD hTs.nd hTs.ok (by have := hTs.len; omega))
        have hmany := hTs.many hc0 hl0 (by omega)
        have hsum := hTs.sum
        have hper := srtT_perm TL
        have hslen : (srtT TL).length = TL.length := hper.length_eq
        have hlen2 := hTs.len
        have HM := hide (show ∀ y ∈ srtT TL, 0 ≤ y.many ∧ y.many ≤ 1000 ∧ (y.why = 0 → y.many = cc) from fun y hy => hmany y (hper.mem_iff.1 hy))
        have HS := hide (show sumT (srtT TL) = cc + l by rw [sumT_perm hper, hsum])
        have hfin := hKp.done hok hxg
        obtain ⟨bk1, bk2, bk3, bk4, bk5, bk6⟩ := hok.bk
        have bk1' : 1 ≤ s := bk1
        have bk2' : s ≤ 1000000000 := bk2
        have bk5' : 1 ≤ e := bk5
        obtain ⟨m1, m2⟩ := mul_bd (g - at_) a e (by omega) (by omega) bk5 (by have h : 1 ≤ a := bk3; omega) bk4
        have HBWw := hide (HW2.out.trans (hBW.mono HW2.out.size))
        obtain ⟨tl, htl⟩ : ∃ tl, TL.length = tl := ⟨_, rfl⟩
        obtain ⟨ST, hST⟩ : ∃ ST, srtT TL = ST := ⟨_, rfl⟩
        rw [hST] at HM HS hslen CT
        rw [htl] at hslen CT
        clear hG hTs hKp hBW hT hTD hmany hsum hper HG4 HTs HKp hbk
        go_wp2_with (first | (go_at_call 18; refine CT.out.mono ?_; rintro e5 w5 ⟨v5, rfl, hrow, hb5⟩; obtain ⟨vA, vc, rfl⟩ := own_sl hrow; have HR5 := hide hrow; have HBX5 := hide (block_below HBX.out hb5); have HB5 := hide (HBWw.out.trans (hb5.mono HBWw.out.size)); clear hrow hb5 CT))
        go_loopw [17, 94] (fun tS tJ w6 => ∃ j : Nat, tS = .int .i64 (sumT (ST.take j)) ∧ tJ = .int .i64 (j : Int) ∧ j ≤ tl ∧ 0 ≤ sumT (ST.take j) ∧ sumT (ST.take j) ≤ 1000 * j ∧ Below w5.heap.size w5 w6) (fun _ j _ => tl - (intOf j).toNat)
        case atStart => exact ⟨0, rfl, rfl, Nat.zero_le _, Int.le_refl _, Int.le_refl _, Below.refl _ _⟩
        case round =>
          obtain ⟨j, rfl, rfl, hj, hs0, hs1, hb6⟩ := hrel
          have hz5 := HB5.out.size
          have hz6 := hb6.size
          by_cases hjt : j < tl
          · have hji : (j : Int) < (tl : Int) := by omega
            obtain ⟨y, hy⟩ : ∃ y, ST[j]? = some y := ⟨_, List.getElem?_eq_getElem (by omega)⟩
            have hR6 := own_below HR5.out hb6
            obtain ⟨g6, cp6, cur6, ev6, _, _⟩ := own_blk hR6 (by omega)
            simp at ev6
            obtain ⟨rfl, rfl⟩ := ev6
            have hgc : ∀ r u, y.cs[r]? = some u → wr.cell? ⟨g6, j * 4 + r, none⟩ = some u := fun r u hu => own_cell hR6 (j * 4 + r) u (by
              have hr4 : r < 4 := by have := (List.getElem?_eq_some_iff.1 hu).1; simpa [Tl.cs] using this
              rw [fm_get (f := Tl.cs) (sz := 4) (fun _ => rfl) ST j r hr4, hy]; exact hu)
            have x0 : wr.cell? ⟨g6, j * 4, none⟩ = some (.string y.key) := by simpa using hgc 0 _ rfl
            have x1 : wr.cell? ⟨g6, j * 4 + 1, none⟩ = some (.int .i64 y.why) := by simpa using hgc 1 _ rfl
            have x2 : wr.cell? ⟨g6, j * 4 + 2, none⟩ = some (.string y.name) := by simpa using hgc 2 _ rfl
            have x3 : wr.cell? ⟨g6, j * 4 + 3, none⟩ = some (.int .i64 y.many) := by simpa using hgc 3 _ rfl
            obtain ⟨n1, n2, n3⟩ := HM.out y (List.mem_of_getElem? hy)
            have HSN := hide (show sumT (ST.take (j + 1)) = sumT (ST.take j) + y.many by rw [take_succ_get hy, sumT_snoc])
            have HB6 := hide (hb6.alloc hz6 (.cells #[.string y.key, .int .i64 y.why, .string y.name, .int .i64 y.many] 50))
            obtain ⟨sm, hsm⟩ : ∃ sm, sumT (ST.take j) = sm := ⟨_, rfl⟩
            rw [hsm] at hs0 hs1 HSN ⊢
            clear hgc hR6 hy hb6 hsm
            by_cases hwhy : y.why = 0
            · have n4 := n3 hwhy
              go_wp2_with (fail)
              go_roundw
              case rel => exact ⟨j + 1, by rw [HSN.out, n4]; try go_num, by go_num, by omega, by rw [HSN.out]; omega, by rw [HSN.out]; omega, by have h := HB6.out; rw [hwhy, n4] at h; exact h⟩
              case measure => simp [intOf]; omega
            · go_wp2_with (fail)
              go_roundw
              case rel => exact ⟨j + 1, by rw [HSN.out]; try go_num, by go_num, by omega, by rw [HSN.out]; omega, by rw [HSN.out]; omega, HB6.out⟩
              case measure => simp [intOf]; omega
          · have hji : ¬ (j : Int) < (tl : Int) := by omega
            have e6 : sumT (ST.take j) = cc + l := by rw [take_len ST (by omega), HS.out]
            rw [e6]
            have hbx6 := block_below HBX5.out hb6
            have y0 : wr.cell? ⟨w.heap.size, 0, none⟩ = some (.int .i64 s) := (block_cell hbx6 0).trans rfl
            have y1 : wr.cell? ⟨w.heap.size, 1, none⟩ = some (.int .i64 a) := (block_cell hbx6 1).trans rfl
            have y2 : wr.cell? ⟨w.heap.size, 2, none⟩ = some (.int .i64 e) := (block_cell hbx6 2).trans rfl
            have HB7 := hide (HB5.out.trans (hb6.mono HB5.out.size))
            clear hbx6 hb6 e6
            go_wp2_with (fail)
            go_region
            all_goals go_wp2_with (fail)
            all_goals go_ret
            all_goals exact ⟨ret_bool (by simp; omega), below_drewN HB7.out 1⟩
  · have hne : (newE [qAll s a e] [] at_ == 0) = false := by simpa using hE
    have HN := hide (NewGate_bad 1 1 0 0 (some ⟨w1.heap.size, 0, none⟩) none [qAll s a e] [] at_ w2 (by decide) hsq hqf (by decide) (Sl.nil _ _ _ _ _) (fun x hx => by cases hx) hE)
    clear hsq hqf hb12 hE hw2
    refine HN.out.mono ?_
    rintro e0 w3 ⟨rfl, hw3⟩
    have HW3 := hide (HW2.out.trans (hw3.mono HW2.out.size))
    clear hw3 HN
    go_wp2_with (fail)
    go_ret
    exact ⟨rfl, HW3.out⟩
end Go.Proofs.YtkoijhecahebgaaDoor
