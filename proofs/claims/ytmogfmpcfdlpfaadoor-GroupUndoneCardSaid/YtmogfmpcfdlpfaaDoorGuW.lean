/- Walk of GroupUndone (printed by gen_gu.py). -/
import Derived.Test.YtmogfmpcfdlpfaaDoorBkUl
import Derived.Test.YtmogfmpcfdlpfaaDoorGrAwk
namespace Go.Proofs.YtmogfmpcfdlpfaaDoor.Bk
open Go.RowKit Go.Maps Go.Sort
set_option linter.unusedVariables false
set_option linter.unusedSimpArgs false
def sb (s : ByteArray) : List Value := [.string s]
theorem sl_conv {w : World} {B n : Nat} {A : Option Addr} {l : List ByteArray} (h : Sl w B sb 1 A n l) : Sl w B se 1 A n (l.map fun s => s.data.toList) := by
  refine ⟨by rw [List.length_map]; exact h.len, fun h0 => ?_⟩
  obtain ⟨b, o, e, hlt, hc⟩ := h.cells h0
  refine ⟨b, o, e, hlt, fun i a ha j v hv => ?_⟩
  rw [List.getElem?_map] at ha
  cases hl : l[i]? with
  | none => rw [hl] at ha; cases ha
  | some s =>
    rw [hl] at ha
    have e2 : s.data.toList = a := Option.some.inj ha
    refine hc i s hl j v ?_
    rw [← hv, ← e2]
    rfl
set_option maxRecDepth 100000 in
set_option maxHeartbeats 16000000 in
theorem GroupUndone_any (A0 : Option Addr) (n0 c0 : Nat) (pl : List ByteArray) (a b : Int) (A3 : Option Addr) (n3 c3 : Nat) (sl : List ByteArray) (w : World) (hn0 : n0 ≤ maxLen) (hnc0 : n0 ≤ c0) (hn3 : n3 ≤ maxLen)
    (hp : Sl w w.heap.size sb 1 A0 n0 pl) (hpf : ∀ s ∈ pl, s.size ≤ maxLen) (hs : Sl w w.heap.size sb 1 A3 n3 sl) (hsf : ∀ s ∈ sl, s.size ≤ maxLen) :
    Calls Tryd.prog 4 #[.slice A0 n0 c0, .int .i64 a, .int .i64 b, .slice A3 n3 c3] w fun e w' => e = .returned (.bool true) ∧ Below w.heap.size w w' := by
  unfold maxLen at hn0
  have HP := hide hp
  have HPF := hide hpf
  have HS := hide (sl_conv hs)
  have HSF := hide (show ∀ s ∈ sl.map (fun s => s.data.toList), s.length ≤ maxLen from fun s h => by
    obtain ⟨x, hx, rfl⟩ := List.mem_map.1 h
    exact hsf x hx)
  obtain ⟨qs, hqs⟩ : ∃ qs, sl.map (fun s => s.data.toList) = qs := ⟨_, rfl⟩
  rw [hqs] at HS HSF
  clear hp hpf hs hsf hqs
  obtain ⟨kk, hkk⟩ : ∃ kk : Nat, min n0 40 = kk := ⟨_, rfl⟩
  have hk40 : kk ≤ 40 := by omega
  have hk1 : kk ≤ n0 := by omega
  go_enter Tryd.func4, Tryd.ntmps4
  go_wp2_with (first
    | (go_at_call 5; refine (awakeGroup_any _).mono ?_; rintro e w1 ⟨rfl, hw1⟩; have HB1 := hide hw1; clear hw1)
    | (go_at_call 6; refine (NewBook_ok _).mono ?_; rintro e w2 ⟨rfl, hbm, hw2⟩; have HBM := hide hbm; have HB2 := hide (HB1.out.trans (hw2.mono HB1.out.size)); have hz2 := hw2.size; clear hbm hw2))
  have hz1 := HB1.out.size
  obtain ⟨B, hB⟩ : ∃ B, w1.heap.size = B := ⟨_, rfl⟩
  rw [hB] at HBM hz1 hz2 ⊢
  obtain ⟨p, hpp⟩ : ∃ p, B + 1 = p := ⟨_, rfl⟩
  rw [hpp] at HBM ⊢
  have HBS := hide (show BS B w2 p B 0 0 (.slice none 0 0) [] (fun _ => 0) [] from ⟨HBM.out, World.ownsRow_nil _ _ _ _, by simp⟩)
  clear HBM HB1 hB hpp
  go_loopw [25] (fun ti wr => ∃ (i mn : Nat) (last : Int) (l : List Pr) (bk : List UInt8 → Nat), i ≤ kk ∧ ti = .int .i64 (i : Int) ∧ BS B wr p B mn last (.slice none 0 0) l bk [] ∧ Rec l last i ∧ mn ≤ i ∧ Below w.heap.size w wr ∧ B ≤ wr.heap.size) (fun ti _ => kk - (intOf ti).toNat)
  case atStart => exact ⟨0, 0, 0, [], _, Nat.zero_le _, rfl, HBS.out, Rec.start, Nat.le_refl _, HB2.out, hz2⟩
  case round =>
    obtain ⟨i, mn, last, l, bk, hi, rfl, hS, hR, hmn, hBW, hzB⟩ := hrel
    clear HBS HB2
    have HSB := hide hS
    have HR := hide hR
    have HBW := hide hBW
    have hzr := hBW.size
    clear hS hR hBW
    by_cases hlt : i < kk
    · obtain ⟨bb, oo, d, hA0, hbb, hx, hc⟩ := (HP.out.below HBW.out).at_ (show i < n0 by omega)
      have hd : d.size ≤ maxLen := HPF.out d (List.mem_of_getElem? hx)
      have d0 : wr.cell? ⟨bb, oo + i, none⟩ = some (.string d) := by simpa [sb] using hc 0 _ rfl
      clear hc hx
      subst hA0
      have hlt' : (i : Int) < (kk : Int) := by omega
      have CT := hide (Take_bs HSB.out HR.out (by omega) hmn (i : Int) 1 (by omega) (by decide) d hd hzB)
      go_wp2_with (fail)
      refine CT.out.mono ?_
      rintro e w4 ⟨y, bo, x, mn', last', l', bk', rfl, h4, h5, h6, _, _, hb4⟩
      have H4 := hide h4
      have H5 := hide h5
      have HB4 := hide (HBW.out.trans (hb4.mono hz1))
      have hz4 := hb4.size
      clear h4 h5 hb4 CT
      go_wp2_with (fail)
      go_roundw
      case rel => exact ⟨i + 1, mn', last', l', bk', by omega, by go_num, H4.out, H5.out, h6, HB4.out, by omega⟩
      case measure => simp [intOf]; omega
    · have hik : i = kk := by omega
      have hlen := HR.out.len
      have CG := hide (Groups_any HSB.out.bm HR.out.nd (by omega) (HR.out.ok (by omega)))
      go_wp2_with (fail)
      refine CG.out.mono ?_
      rintro e wg ⟨v0, es0, rfl, hgr, hbg⟩
      have HU := hide (show UJ ⟨B, wr.heap.size, wg.heap.size, p, B, l, v0, es0⟩ [] l i wg from ⟨mn, last, _, bk, HSB.out.below hbg, HR.out, rfl, fun k hk => .inl (HSB.out.lt hk), GrsK.of hgr, Nat.le_refl _, hzB, hbg.size⟩)
      have HBG := hide (HBW.out.trans (hbg.mono hzr))
      have hzg : wr.heap.size ≤ wg.heap.size := hbg.size
      have hi40 : i ≤ 40 := by omega
      have hll : l.length ≤ 1000 := by omega
      obtain ⟨X, hX, hXp, hXB, hXl⟩ : ∃ X : UX, Hid (UJ X [] l i wg) ∧ p = X.p ∧ B = X.B ∧ Hid (X.v0 = v0 ∧ X.l0 = l) := ⟨_, HU, rfl, rfl, hide ⟨rfl, rfl⟩⟩
      subst hXp hXB
      have HV := hide hXl.out.1
      have HL0 := hide hXl.out.2
      clear HU HSB HR CG hgr hbg HP HPF hXl
      have hv0 := HV.out
      subst hv0
      have CM := hide (Merge_uj hX.out (by omega) (by decide) a b)
      clear HV
      go_wp2_with (fail)
      refine CM.out.mono ?_
      rintro e wm ⟨xm, rfl, hbm, ⟨hxm, hum⟩ | ⟨rfl, st, lm, hum, _, _⟩⟩
      · have HUM := hide hum
        have HBM := hide (HBG.out.trans (hbm.mono hz1))
        have hzm := HBM.out.size
        clear hum hbm CM
        have CS := hide (Split_uj HUM.out (by omega) (by simp) a A3 n3 c3 qs (HS.out.upS HBM.out) hn3 HSF.out (fun h0 b o e => .inl (by obtain ⟨b', o', e', hl, _⟩ := HS.out.cells h0; rw [e] at e'; cases e'; omega)))
        go_wp2_with (fail)
        refine CS.out.mono ?_
        rintro e wt ⟨zs, xs, rfl, hbt, ⟨hxs, hut⟩ | ⟨rfl, st2, lt, hut, _, _⟩⟩
        · have HUT := hide hut
          have HBT := hide (HBM.out.trans (hbt.mono hz1))
          clear hut hbt CS HUM HBM
          obtain ⟨mnT, laT, svT, bkT, hbsT, hrecT, hchT, _⟩ := HUT.out
          have CH := hide (History_len hbsT (by simp) (chain_len hchT))
          clear hbsT hrecT hchT
          go_wp2_with (fail)
          refine CH.out.mono ?_
          rintro e wh ⟨Ah, ch, rfl, hbh⟩
          have HUH := hide (HUT.out.below hbh)
          have HBH := hide (HBT.out.trans (hbh.mono HBT.out.size))
          clear HUT HBT hbh CH
          go_wp2_with (fail)
          go_loopw [61] (fun ti wr => ∃ (j : Nat) (ss' : List Stp) (l' : List Pr), j ≤ 0 ∧ ti = .int .i64 (j : Int) ∧ ss'.length + j = 0 ∧ UJ X ss' l' ((i + 0) + j) wr ∧ Below w.heap.size w wr) (fun ti _ => 0 - (intOf ti).toNat)
          case atStart => exact ⟨0, _, _, Nat.zero_le _, rfl, rfl, HUH.out, HBH.out⟩
          case round =>
            obtain ⟨j, ss', l', hj, rfl, hssl, hu, hBr⟩ := hrel
            have HU := hide hu
            have HBR := hide hBr
            clear hu hBr HUH HBH
            have CU := hide (Undo_uj HU.out (by omega) (by omega))
            by_cases hjn : j < 0
            · have hjn' : (j : Int) < 0 := by omega
              go_wp2_with (fail)
              refine CU.out.mono ?_
              rintro e wu ⟨hbu, ⟨rfl, rfl, rfl⟩ | ⟨s3, st3, l3, rfl, rfl, hu3, _, _⟩⟩
              · simp at hssl; omega
              · have HU3 := hide hu3
                have HB3 := hide (HBR.out.trans (hbu.mono hz1))
                rw [List.length_append, List.length_singleton] at hssl
                clear hu3 hbu CU HU
                go_wp2_with (fail)
                go_roundw
                case rel => exact ⟨j + 1, s3, l3, by omega, by go_num, by omega, HU3.out.moreU (by omega), HB3.out⟩
                case measure => simp [intOf]; omega
            · have hjn' : ¬ (j : Int) < 0 := by omega
              have hs0 : ss' = [] := List.eq_nil_of_length_eq_zero (by omega)
              subst hs0
              go_wp2_with (fail)
              refine CU.out.mono ?_
              rintro e wu ⟨hbu, ⟨_, rfl, rfl⟩ | ⟨s3, st3, l3, h9, rfl, hu3, _, _⟩⟩
              · obtain ⟨mnE, laE, svE, bkE, hbsE, hrecE, hchE, _, hgE, _⟩ := HU.out
                have hlE : l' = X.l0 := hchE
                subst hlE
                have hlen9 := hrecE.len
                have CG2 := hide (Groups_any hbsE.bm hrecE.nd (by omega) (hrecE.ok (by omega)))
                have HGE := hide hgE
                clear hbsE hrecE hchE hgE hbu CU
                go_wp2_with (fail)
                refine CG2.out.mono ?_
                rintro e w8 ⟨v1, es1, rfl, hgr1, hb8⟩
                have HB8 := hide (HBR.out.trans (hb8.mono HBR.out.size))
                have CE := hide (EqGs_any ((HGE.out.keep fun k o _ _ e => block_below e hb8).1) hgr1 (by omega))
                clear hgr1 hb8 CG2 HGE
                go_wp2_with (fail)
                refine CE.out.mono ?_
                rintro e w9 ⟨rfl, hb9⟩
                have HB9 := hide (HB8.out.trans (hb9.mono HB8.out.size))
                clear hb9 CE
                go_wp2_with (fail)
                go_ret
                exact ⟨rfl, HB9.out⟩
              · exact absurd h9 (by simp)
        · have HUT := hide hut
          have HBT := hide (HBM.out.trans (hbt.mono hz1))
          clear hut hbt CS HUM HBM
          obtain ⟨mnT, laT, svT, bkT, hbsT, hrecT, hchT, _⟩ := HUT.out
          have CH := hide (History_len hbsT (by simp) (chain_len hchT))
          clear hbsT hrecT hchT
          go_wp2_with (fail)
          refine CH.out.mono ?_
          rintro e wh ⟨Ah, ch, rfl, hbh⟩
          have HUH := hide (HUT.out.below hbh)
          have HBH := hide (HBT.out.trans (hbh.mono HBT.out.size))
          clear HUT HBT hbh CH
          go_wp2_with (fail)
          go_loopw [61] (fun ti wr => ∃ (j : Nat) (ss' : List Stp) (l' : List Pr), j ≤ 1 ∧ ti = .int .i64 (j : Int) ∧ ss'.length + j = 1 ∧ UJ X ss' l' ((i + 1) + j) wr ∧ Below w.heap.size w wr) (fun ti _ => 1 - (intOf ti).toNat)
          case atStart => exact ⟨0, _, _, Nat.zero_le _, rfl, rfl, HUH.out, HBH.out⟩
          case round =>
            obtain ⟨j, ss', l', hj, rfl, hssl, hu, hBr⟩ := hrel
            have HU := hide hu
            have HBR := hide hBr
            clear hu hBr HUH HBH
            have CU := hide (Undo_uj HU.out (by omega) (by omega))
            by_cases hjn : j < 1
            · have hjn' : (j : Int) < 1 := by omega
              go_wp2_with (fail)
              refine CU.out.mono ?_
              rintro e wu ⟨hbu, ⟨rfl, rfl, rfl⟩ | ⟨s3, st3, l3, rfl, rfl, hu3, _, _⟩⟩
              · simp at hssl; omega
              · have HU3 := hide hu3
                have HB3 := hide (HBR.out.trans (hbu.mono hz1))
                rw [List.length_append, List.length_singleton] at hssl
                clear hu3 hbu CU HU
                go_wp2_with (fail)
                go_roundw
                case rel => exact ⟨j + 1, s3, l3, by omega, by go_num, by omega, HU3.out.moreU (by omega), HB3.out⟩
                case measure => simp [intOf]; omega
            · have hjn' : ¬ (j : Int) < 1 := by omega
              have hs0 : ss' = [] := List.eq_nil_of_length_eq_zero (by omega)
              subst hs0
              go_wp2_with (fail)
              refine CU.out.mono ?_
              rintro e wu ⟨hbu, ⟨_, rfl, rfl⟩ | ⟨s3, st3, l3, h9, rfl, hu3, _, _⟩⟩
              · obtain ⟨mnE, laE, svE, bkE, hbsE, hrecE, hchE, _, hgE, _⟩ := HU.out
                have hlE : l' = X.l0 := hchE
                subst hlE
                have hlen9 := hrecE.len
                have CG2 := hide (Groups_any hbsE.bm hrecE.nd (by omega) (hrecE.ok (by omega)))
                have HGE := hide hgE
                clear hbsE hrecE hchE hgE hbu CU
                go_wp2_with (fail)
                refine CG2.out.mono ?_
                rintro e w8 ⟨v1, es1, rfl, hgr1, hb8⟩
                have HB8 := hide (HBR.out.trans (hb8.mono HBR.out.size))
                have CE := hide (EqGs_any ((HGE.out.keep fun k o _ _ e => block_below e hb8).1) hgr1 (by omega))
                clear hgr1 hb8 CG2 HGE
                go_wp2_with (fail)
                refine CE.out.mono ?_
                rintro e w9 ⟨rfl, hb9⟩
                have HB9 := hide (HB8.out.trans (hb9.mono HB8.out.size))
                clear hb9 CE
                go_wp2_with (fail)
                go_ret
                exact ⟨rfl, HB9.out⟩
              · exact absurd h9 (by simp)
      · have HUM := hide hum
        have HBM := hide (HBG.out.trans (hbm.mono hz1))
        have hzm := HBM.out.size
        clear hum hbm CM
        have CS := hide (Split_uj HUM.out (by omega) (by simp) a A3 n3 c3 qs (HS.out.upS HBM.out) hn3 HSF.out (fun h0 b o e => .inl (by obtain ⟨b', o', e', hl, _⟩ := HS.out.cells h0; rw [e] at e'; cases e'; omega)))
        go_wp2_with (fail)
        refine CS.out.mono ?_
        rintro e wt ⟨zs, xs, rfl, hbt, ⟨hxs, hut⟩ | ⟨rfl, st2, lt, hut, _, _⟩⟩
        · have HUT := hide hut
          have HBT := hide (HBM.out.trans (hbt.mono hz1))
          clear hut hbt CS HUM HBM
          obtain ⟨mnT, laT, svT, bkT, hbsT, hrecT, hchT, _⟩ := HUT.out
          have CH := hide (History_len hbsT (by simp) (chain_len hchT))
          clear hbsT hrecT hchT
          go_wp2_with (fail)
          refine CH.out.mono ?_
          rintro e wh ⟨Ah, ch, rfl, hbh⟩
          have HUH := hide (HUT.out.below hbh)
          have HBH := hide (HBT.out.trans (hbh.mono HBT.out.size))
          clear HUT HBT hbh CH
          go_wp2_with (fail)
          go_loopw [61] (fun ti wr => ∃ (j : Nat) (ss' : List Stp) (l' : List Pr), j ≤ 1 ∧ ti = .int .i64 (j : Int) ∧ ss'.length + j = 1 ∧ UJ X ss' l' ((i + 1) + j) wr ∧ Below w.heap.size w wr) (fun ti _ => 1 - (intOf ti).toNat)
          case atStart => exact ⟨0, _, _, Nat.zero_le _, rfl, rfl, HUH.out, HBH.out⟩
          case round =>
            obtain ⟨j, ss', l', hj, rfl, hssl, hu, hBr⟩ := hrel
            have HU := hide hu
            have HBR := hide hBr
            clear hu hBr HUH HBH
            have CU := hide (Undo_uj HU.out (by omega) (by omega))
            by_cases hjn : j < 1
            · have hjn' : (j : Int) < 1 := by omega
              go_wp2_with (fail)
              refine CU.out.mono ?_
              rintro e wu ⟨hbu, ⟨rfl, rfl, rfl⟩ | ⟨s3, st3, l3, rfl, rfl, hu3, _, _⟩⟩
              · simp at hssl; omega
              · have HU3 := hide hu3
                have HB3 := hide (HBR.out.trans (hbu.mono hz1))
                rw [List.length_append, List.length_singleton] at hssl
                clear hu3 hbu CU HU
                go_wp2_with (fail)
                go_roundw
                case rel => exact ⟨j + 1, s3, l3, by omega, by go_num, by omega, HU3.out.moreU (by omega), HB3.out⟩
                case measure => simp [intOf]; omega
            · have hjn' : ¬ (j : Int) < 1 := by omega
              have hs0 : ss' = [] := List.eq_nil_of_length_eq_zero (by omega)
              subst hs0
              go_wp2_with (fail)
              refine CU.out.mono ?_
              rintro e wu ⟨hbu, ⟨_, rfl, rfl⟩ | ⟨s3, st3, l3, h9, rfl, hu3, _, _⟩⟩
              · obtain ⟨mnE, laE, svE, bkE, hbsE, hrecE, hchE, _, hgE, _⟩ := HU.out
                have hlE : l' = X.l0 := hchE
                subst hlE
                have hlen9 := hrecE.len
                have CG2 := hide (Groups_any hbsE.bm hrecE.nd (by omega) (hrecE.ok (by omega)))
                have HGE := hide hgE
                clear hbsE hrecE hchE hgE hbu CU
                go_wp2_with (fail)
                refine CG2.out.mono ?_
                rintro e w8 ⟨v1, es1, rfl, hgr1, hb8⟩
                have HB8 := hide (HBR.out.trans (hb8.mono HBR.out.size))
                have CE := hide (EqGs_any ((HGE.out.keep fun k o _ _ e => block_below e hb8).1) hgr1 (by omega))
                clear hgr1 hb8 CG2 HGE
                go_wp2_with (fail)
                refine CE.out.mono ?_
                rintro e w9 ⟨rfl, hb9⟩
                have HB9 := hide (HB8.out.trans (hb9.mono HB8.out.size))
                clear hb9 CE
                go_wp2_with (fail)
                go_ret
                exact ⟨rfl, HB9.out⟩
              · exact absurd h9 (by simp)
        · have HUT := hide hut
          have HBT := hide (HBM.out.trans (hbt.mono hz1))
          clear hut hbt CS HUM HBM
          obtain ⟨mnT, laT, svT, bkT, hbsT, hrecT, hchT, _⟩ := HUT.out
          have CH := hide (History_len hbsT (by simp) (chain_len hchT))
          clear hbsT hrecT hchT
          go_wp2_with (fail)
          refine CH.out.mono ?_
          rintro e wh ⟨Ah, ch, rfl, hbh⟩
          have HUH := hide (HUT.out.below hbh)
          have HBH := hide (HBT.out.trans (hbh.mono HBT.out.size))
          clear HUT HBT hbh CH
          go_wp2_with (fail)
          go_loopw [61] (fun ti wr => ∃ (j : Nat) (ss' : List Stp) (l' : List Pr), j ≤ 2 ∧ ti = .int .i64 (j : Int) ∧ ss'.length + j = 2 ∧ UJ X ss' l' ((i + 2) + j) wr ∧ Below w.heap.size w wr) (fun ti _ => 2 - (intOf ti).toNat)
          case atStart => exact ⟨0, _, _, Nat.zero_le _, rfl, rfl, HUH.out, HBH.out⟩
          case round =>
            obtain ⟨j, ss', l', hj, rfl, hssl, hu, hBr⟩ := hrel
            have HU := hide hu
            have HBR := hide hBr
            clear hu hBr HUH HBH
            have CU := hide (Undo_uj HU.out (by omega) (by omega))
            by_cases hjn : j < 2
            · have hjn' : (j : Int) < 2 := by omega
              go_wp2_with (fail)
              refine CU.out.mono ?_
              rintro e wu ⟨hbu, ⟨rfl, rfl, rfl⟩ | ⟨s3, st3, l3, rfl, rfl, hu3, _, _⟩⟩
              · simp at hssl; omega
              · have HU3 := hide hu3
                have HB3 := hide (HBR.out.trans (hbu.mono hz1))
                rw [List.length_append, List.length_singleton] at hssl
                clear hu3 hbu CU HU
                go_wp2_with (fail)
                go_roundw
                case rel => exact ⟨j + 1, s3, l3, by omega, by go_num, by omega, HU3.out.moreU (by omega), HB3.out⟩
                case measure => simp [intOf]; omega
            · have hjn' : ¬ (j : Int) < 2 := by omega
              have hs0 : ss' = [] := List.eq_nil_of_length_eq_zero (by omega)
              subst hs0
              go_wp2_with (fail)
              refine CU.out.mono ?_
              rintro e wu ⟨hbu, ⟨_, rfl, rfl⟩ | ⟨s3, st3, l3, h9, rfl, hu3, _, _⟩⟩
              · obtain ⟨mnE, laE, svE, bkE, hbsE, hrecE, hchE, _, hgE, _⟩ := HU.out
                have hlE : l' = X.l0 := hchE
                subst hlE
                have hlen9 := hrecE.len
                have CG2 := hide (Groups_any hbsE.bm hrecE.nd (by omega) (hrecE.ok (by omega)))
                have HGE := hide hgE
                clear hbsE hrecE hchE hgE hbu CU
                go_wp2_with (fail)
                refine CG2.out.mono ?_
                rintro e w8 ⟨v1, es1, rfl, hgr1, hb8⟩
                have HB8 := hide (HBR.out.trans (hb8.mono HBR.out.size))
                have CE := hide (EqGs_any ((HGE.out.keep fun k o _ _ e => block_below e hb8).1) hgr1 (by omega))
                clear hgr1 hb8 CG2 HGE
                go_wp2_with (fail)
                refine CE.out.mono ?_
                rintro e w9 ⟨rfl, hb9⟩
                have HB9 := hide (HB8.out.trans (hb9.mono HB8.out.size))
                clear hb9 CE
                go_wp2_with (fail)
                go_ret
                exact ⟨rfl, HB9.out⟩
              · exact absurd h9 (by simp)
end Go.Proofs.YtmogfmpcfdlpfaaDoor.Bk
