/- Walk of GroupBooks. -/
import Derived.Test.YtapfcnfmonknjaaGreatDoorGbJ
import Derived.Test.YtapfcnfmonknjaaGreatDoorGbOpn
namespace Go.Proofs.YtapfcnfmonknjaaGreatDoor.Bk
open Go.RowKit Go.Maps Go.Sort
set_option linter.unusedVariables false
set_option linter.unusedSimpArgs false
/-- What is known ahead of a round's deed. -/
structure RD (X : GX) (w wr : World) (i : Nat) (s : ByteArray) (d : Dd) : Prop where
  j : GJ X i wr
  b : Below w.heap.size w wr
  s : s.size ≤ maxLen
  d : d.ok w
set_option maxRecDepth 100000 in
set_option maxHeartbeats 16000000 in
theorem GroupBooks_any (A0 : Option Addr) (n0 c0 : Nat) (dl : List Dd) (w : World) (hn0 : n0 ≤ maxLen) (hnc0 : n0 ≤ c0) (hd : Sl w w.heap.size Dd.cs 4 A0 n0 dl) (hok : ∀ d ∈ dl, d.ok w) :
    Calls Tryz.prog 3 #[.slice A0 n0 c0] w fun e w' => e = .returned (.bool true) ∧ Below w.heap.size w w' := by
  unfold maxLen at hn0
  have HD := hide hd
  have HOK := hide hok
  clear hd hok
  obtain ⟨kk, hkk⟩ : ∃ kk : Nat, min n0 60 = kk := ⟨_, rfl⟩
  have hk60 : kk ≤ 60 := by omega
  have hk1 : kk ≤ n0 := by omega
  go_enter Tryz.func3, Tryz.ntmps3
  go_wp2_with (fail)
  refine (NewBook_ok w).mono ?_
  rintro e w1 ⟨rfl, hbm, hb1⟩
  obtain ⟨p, hp⟩ : ∃ p, w.heap.size + 1 = p := ⟨_, rfl⟩
  rw [hp] at hbm ⊢
  obtain ⟨q, hq⟩ : ∃ q, w1.heap.size = q := ⟨_, rfl⟩
  have hpl := hbm.lt (.inl rfl)
  obtain ⟨wa, hwa⟩ : ∃ wa, w1.alloc (.cells #[.slice none 0 0, .int .i64 0, .slice none 0 0] 29) = wa := ⟨_, rfl⟩
  have hba : Below w1.heap.size w1 wa := hwa ▸ (Below.refl _ _).alloc (Nat.le_refl _) _
  have hqa : wa.heap[q]? = some (.cells #[.slice none 0 0, .int .i64 0, .slice none 0 0] 29 (0, 0)) := hwa ▸ hq ▸ heap_alloc_new w1 _
  have hz1 := hb1.size
  have HJ0 := hide (show GJ ⟨w.heap.size, p, w.heap.size, q⟩ 0 wa from by
    have hbs : BS w.heap.size wa p w.heap.size 0 0 (.slice none 0 0) [] (fun _ => 0) [] := BS.below ⟨hbm, World.ownsRow_nil _ _ _ _, by simp⟩ hba
    refine ⟨0, 0, .slice none 0 0, [], _, [], .slice none 0 0, .slice none 0 0, [], [], hbs, ⟨⟨hqa, World.ownsRow_nil _ _ _ _, by show w.heap.size ≤ q; omega⟩, World.ownsRow_nil _ _ _ _, by simp⟩, RecB.start, Nat.le_refl _, List.Perm.refl _, List.Pairwise.nil, by simp, Nat.le_refl _, rfl, fun k hk hr => ?_, Nat.le_trans hz1 hba.size⟩
    have hk1 : k < w1.heap.size := by
      have h0 : BS w.heap.size w1 p w.heap.size 0 0 (.slice none 0 0) [] (fun _ => 0) [] := ⟨hbm, World.ownsRow_nil _ _ _ _, by simp⟩
      exact h0.lt hk
    rcases hr with hr | hr | ⟨s, hs, _⟩
    · rcases hr with hr | hr
      · have : k = q := hr
        omega
      · cases hr
    · cases hr
    · simp at hs)
  have HBA := hide (hb1.trans (hba.mono hz1))
  obtain ⟨X, hX, hXp, hXq, hXB⟩ : ∃ X : GX, Hid (GJ X 0 wa) ∧ p = X.p ∧ q = X.q ∧ Hid (X.B = w.heap.size) := ⟨_, HJ0, rfl, rfl, hide rfl⟩
  have HXB := hXB
  have HWA := hide hwa
  have HQ := hide hq
  clear HJ0 hbm hba hqa hp hpl hb1
  subst hXp
  have hXq2 : w1.heap.size = X.q := hq.trans hXq
  clear hq hXq HQ
  go_wp2_with (fail)
  go_loopw [34] (fun ti wr => ∃ i : Nat, i ≤ kk ∧ ti = .int .i64 (i : Int) ∧ GJ X i wr ∧ Below w.heap.size w wr) (fun ti _ => kk - (intOf ti).toNat)
  case atStart => exact ⟨0, Nat.zero_le _, rfl, by first | exact hX.out | exact hwa ▸ hX.out, by first | exact HBA.out | exact hwa ▸ HBA.out⟩
  case round =>
    obtain ⟨i, hi, rfl, hj, hBW⟩ := hrel
    have HJW := hide hj
    have HBW := hide hBW
    have hzr := hBW.size
    clear hj hX HBA hwa HWA hBW hXB hXq2
    by_cases hlt : i < kk
    · obtain ⟨bb, oo, d, hA0, hbb, hx, hc⟩ := (HD.out.below HBW.out).at_ (show i < n0 by omega)
      have hdok := HOK.out d (List.mem_of_getElem? hx)
      obtain ⟨wh, a, b, A, n, c, ps⟩ := d
      obtain ⟨hn, hsl, hfit⟩ := hdok
      simp only at hn hsl hfit
      have d0 : wr.cell? ⟨bb, oo + i * 4, none⟩ = some (.int .i64 wh) := by simpa using hc 0 _ rfl
      have d1 : wr.cell? ⟨bb, oo + i * 4 + 1, none⟩ = some (.int .i64 a) := hc 1 _ rfl
      have d2 : wr.cell? ⟨bb, oo + i * 4 + 2, none⟩ = some (.int .i64 b) := hc 2 _ rfl
      have d3 : wr.cell? ⟨bb, oo + i * 4 + 3, none⟩ = some (.slice A n c) := hc 3 _ rfl
      have HSL := hide hsl
      have HFIT := hide hfit
      have HSQ := hide (sl_conv hsl)
      have HSF := hide (show ∀ s ∈ ps.map (fun s => s.data.toList), s.length ≤ maxLen from fun s h => by
        obtain ⟨x, hx, rfl⟩ := List.mem_map.1 h
        exact hfit x hx)
      have hlt' : (i : Int) < (kk : Int) := by omega
      obtain ⟨box, hbox⟩ : ∃ o : Obj, .cells #[.int .i64 wh, .int .i64 a, .int .i64 b, .slice A n c] 32 (0, 0) = o := ⟨_, rfl⟩
      obtain ⟨wa, hwa⟩ : ∃ wa, wr.alloc box = wa := ⟨_, rfl⟩
      have hba : Below wr.heap.size wr wa := hwa ▸ (Below.refl _ _).alloc (Nat.le_refl _) _
      have HBX := hide (show wa.heap[wr.heap.size]? = some (.cells #[.int .i64 wh, .int .i64 a, .int .i64 b, .slice A n c] 32 (0, 0)) from hbox.symm ▸ hwa ▸ heap_alloc_new wr _)
      have HJA := hide (HJW.out.below hba)
      have HB1 := hide (HBW.out.trans (hba.mono hzr))
      have hi100 : i ≤ 100 := by omega
      have CG := hide (fun W (h : GJ X (i + 1) W) => Groups_gj h (by omega))
      have CH := hide (fun W (h : GJ X (i + 1) W) => History_gj h (by omega))
      obtain ⟨s, hs9, HPR⟩ : ∃ s : ByteArray, s.size ≤ maxLen ∧ ((n = 0 ∧ s = ⟨#[]⟩) ∨ (∃ pb po, 0 < (n : Int) ∧ A = some ⟨pb, po, none⟩ ∧ wa.cell? ⟨pb, po, none⟩ = some (.string s))) := by
        rcases Nat.eq_zero_or_pos n with h | h
        · exact ⟨⟨#[]⟩, by decide, .inl ⟨h, rfl⟩⟩
        · obtain ⟨pb, po, s, e, hlt, hx, hc⟩ := ((HSL.out.below HBW.out).below (Below.mono hba hzr)).at_ (show 0 < n from h)
          exact ⟨s, HFIT.out s (List.mem_of_getElem? hx), .inr ⟨pb, po, by omega, e, by simpa [sb] using hc 0 _ rfl⟩⟩
      have hnm := hn
      clear hc hx hsl hfit hba hn
      subst hA0
      subst hbox
      have y0 : wa.cell? ⟨wr.heap.size, 0, none⟩ = some (.int .i64 wh) := (block_cell HBX.out 0).trans rfl
      have y1 : wa.cell? ⟨wr.heap.size, 1, none⟩ = some (.int .i64 a) := (block_cell HBX.out 1).trans rfl
      have y2 : wa.cell? ⟨wr.heap.size, 2, none⟩ = some (.int .i64 b) := (block_cell HBX.out 2).trans rfl
      have y3 : wa.cell? ⟨wr.heap.size, 3, none⟩ = some (.slice A n c) := (block_cell HBX.out 3).trans rfl
      by_cases h0 : wh = 0
      · subst h0
        rcases HPR with ⟨rfl, rfl⟩ | ⟨pb, po, hn1, rfl, hpc⟩ <;> (
          have CT := hide (fun W (h : GJ X i W) => Take_gj h hi100 _ a b hs9)
          go_wp2_with (first | (go_at_call 5; refine (CT.out _ HJA.out).mono ?_; rintro e w1 ⟨yy, bo, xx, rfl, hb1, hd1, hC1⟩; have HC1 := hide hC1; have hbx1 := hd1 _ _ HBX.out; have e1 : w1.cell? ⟨wr.heap.size, 1, none⟩ = some (.int .i64 a) := (block_cell hbx1 1).trans rfl; have e2 : w1.cell? ⟨wr.heap.size, 2, none⟩ = some (.int .i64 b) := (block_cell hbx1 2).trans rfl; have e3 : w1.cell? ⟨wr.heap.size, 3, none⟩ = some (.slice _ _ c) := (block_cell hbx1 3).trans rfl; have HB2 := hide (HB1.out.trans (HXB.out ▸ hb1)); clear hb1 hd1 hC1 hbx1) | (go_at_call 6; refine (HC1.out _ (Below.refl _ _)).mono ?_; rintro e w2 ⟨rfl, hb2, hj2⟩; have HJ := hide hj2; have HBJ := hide (HB2.out.trans (HXB.out ▸ hb2)); clear hb2 hj2 HC1 HB2; clear e1 e2 e3) | (go_at_call 16; refine (CG.out _ HJ.out).mono ?_; rintro e w3 ⟨v3, rfl, hb3, hC3⟩; have HC3 := hide hC3; have HB3 := hide hb3; clear hC3 hb3) | (go_at_call 17; refine (HC3.out _ (Below.refl _ _)).mono ?_; rintro e w4 ⟨v4, rfl, hb4, hC4⟩; have HC4 := hide hC4; have HB4 := hide hb4; clear hC4 hb4 HC3) | (go_at_call 15; refine (HC4.out _ (Below.refl _ _)).mono ?_; rintro e w5 ⟨rfl, hb5⟩; have HJ5 := hide (((HJ.out.below HB3.out).below HB4.out).below hb5); have HB5 := hide (((HBJ.out.trans (HB3.out.mono HBJ.out.size)).trans (HB4.out.mono (Nat.le_trans HBJ.out.size HB3.out.size))).trans (hb5.mono (Nat.le_trans HBJ.out.size (Nat.le_trans HB3.out.size HB4.out.size)))); clear hb5 HC4 HB3 HB4 HJ HBJ) | (go_at_call 20; refine (CH.out _ HJ5.out).mono ?_; rintro e w6 ⟨v6, rfl, hb6, hC6⟩; have HC6 := hide hC6; have HB6 := hide hb6; clear hC6 hb6) | (go_at_call 21; refine (HC6.out _ (Below.refl _ _)).mono ?_; rintro e w7 ⟨v7, rfl, hb7, hC7⟩; have HC7 := hide hC7; have HB7 := hide hb7; clear hC7 hb7 HC6) | (go_at_call 19; refine (HC7.out _ (Below.refl _ _)).mono ?_; rintro e w8 ⟨rfl, hb8⟩; have HJ8 := hide (((HJ5.out.below HB6.out).below HB7.out).below hb8); have HB8 := hide (((HB5.out.trans (HB6.out.mono HB5.out.size)).trans (HB7.out.mono (Nat.le_trans HB5.out.size HB6.out.size))).trans (hb8.mono (Nat.le_trans HB5.out.size (Nat.le_trans HB6.out.size HB7.out.size)))); clear hb8 HC7 HB6 HB7 HJ5 HB5))
          go_roundw
          case rel => exact ⟨i + 1, by omega, by go_num, HJ8.out, HB8.out⟩
          case measure => simp [intOf]; omega)
      have h0b : (wh == 0) = false := beq_eq_false_iff_ne.2 h0
      by_cases h1 : wh = 1
      · subst h1
        rcases HPR with ⟨rfl, rfl⟩ | ⟨pb, po, hn1, rfl, hpc⟩ <;> (
          have CT := hide (fun W (h : GJ X i W) => Merge_gj h hi100 a b)
          have HSS := hide (show ∀ (V : World) (sl : Value), V.heap[wr.heap.size]? = some (.cells #[.int .i64 1, .int .i64 a, .int .i64 b, sl] 32 (0, 0)) → (fun V => V.cell? ⟨wr.heap.size, 1, none⟩ = some (.int .i64 a) ∧ V.cell? ⟨wr.heap.size, 2, none⟩ = some (.int .i64 b)) V from fun V sl h9 => ⟨(block_cell h9 1).trans rfl, (block_cell h9 2).trans rfl⟩)
          have HJD := hide (HJA.out.below (below_drewN (Below.refl _ _) 1))
          go_wp2_with (fail)
          refine wp_region_chain (fun V => V.cell? ⟨wr.heap.size, 1, none⟩ = some (.int .i64 a) ∧ V.cell? ⟨wr.heap.size, 2, none⟩ = some (.int .i64 b)) 11 (by as_aux_lemma => kernel_rfl) (N := 14) (by as_aux_lemma => kernel_rfl) ?_; intro hsh
          have HS0 := HSS.out wa.drew _ HBX.out
          refine wpAnyC_take0 (i := 0) (k := 11) (v := ?_) (d := some 107) rfl (by rfl) (by as_aux_lemma => kernel_rfl) (by as_aux_lemma => kernel_rfl) (by as_aux_lemma => kernel_rfl) hsh (by decide) (by intro _ _ _ h; exact h) (by assumption) (Or.inl ⟨by rfl, ?hy⟩) ?_; (case hy => (intro W _; go_simp; (try with_reducible rfl))); clear hsh; intro hsh
          refine wpAnyC_take0 (i := 1) (k := 11) (v := ?_) (d := some 108) rfl (by rfl) (by as_aux_lemma => kernel_rfl) (by as_aux_lemma => kernel_rfl) (by as_aux_lemma => kernel_rfl) hsh (by decide) (by intro _ _ _ h; exact h) (by assumption) (Or.inl ⟨by rfl, ?hy⟩) ?_; (case hy => (intro W _; go_simp; (try with_reducible rfl))); clear hsh; intro hsh
          refine wpAnyC_take (i := 2) (k := 11) (f := 40) (v := ?_) (d := some 109) rfl (by rfl) (by as_aux_lemma => kernel_rfl) (by as_aux_lemma => kernel_rfl) (by as_aux_lemma => kernel_rfl) hsh (by decide) (by as_aux_lemma => kernel_rfl) (by intro _ _ _ h; exact h) (by assumption) (Or.inl ⟨by rfl, ?hy⟩) ?_; (case hy => (rintro W ⟨b1, b2⟩; go_simp; (try with_reducible rfl))); clear hsh; intro hsh
          refine wpAnyC_take0 (i := 3) (k := 11) (v := ?_) (d := some 110) rfl (by rfl) (by as_aux_lemma => kernel_rfl) (by as_aux_lemma => kernel_rfl) (by as_aux_lemma => kernel_rfl) hsh (by decide) (by intro _ _ _ h; exact h) (by assumption) (Or.inl ⟨by rfl, ?hy⟩) ?_; (case hy => (intro W _; go_simp; (try with_reducible rfl))); clear hsh; intro hsh
          refine wpAnyC_take (i := 4) (k := 11) (f := 40) (v := ?_) (d := some 111) rfl (by rfl) (by as_aux_lemma => kernel_rfl) (by as_aux_lemma => kernel_rfl) (by as_aux_lemma => kernel_rfl) hsh (by decide) (by as_aux_lemma => kernel_rfl) (by intro _ _ _ h; exact h) (by assumption) (Or.inl ⟨by rfl, ?hy⟩) ?_; (case hy => (rintro W ⟨b1, b2⟩; go_simp; (try with_reducible rfl))); clear hsh; intro hsh
          refine wpAnyC_take0 (i := 6) (k := 11) (v := ?_) (d := some 113) rfl (by rfl) (by as_aux_lemma => kernel_rfl) (by as_aux_lemma => kernel_rfl) (by as_aux_lemma => kernel_rfl) hsh (by decide) (by intro _ _ _ h; exact h) (by assumption) (Or.inl ⟨by rfl, ?hy⟩) ?_; (case hy => (intro W _; go_simp; (try with_reducible rfl))); clear hsh; intro hsh
          refine wpAnyC_take0 (i := 7) (k := 11) (v := ?_) (d := some 114) rfl (by rfl) (by as_aux_lemma => kernel_rfl) (by as_aux_lemma => kernel_rfl) (by as_aux_lemma => kernel_rfl) hsh (by decide) (by intro _ _ _ h; exact h) (by assumption) (Or.inl ⟨by rfl, ?hy⟩) ?_; (case hy => (intro W _; go_simp; (try with_reducible rfl))); clear hsh; intro hsh
          refine wpAnyC_take (i := 8) (k := 11) (f := 40) (v := ?_) (d := some 115) rfl (by rfl) (by as_aux_lemma => kernel_rfl) (by as_aux_lemma => kernel_rfl) (by as_aux_lemma => kernel_rfl) hsh (by decide) (by as_aux_lemma => kernel_rfl) (by intro _ _ _ h; exact h) (by assumption) (Or.inl ⟨by rfl, ?hy⟩) ?_; (case hy => (rintro W ⟨b1, b2⟩; go_simp; (try with_reducible rfl))); clear hsh; intro hsh
          refine wpAnyC_take0 (i := 9) (k := 11) (v := ?_) (d := some 116) rfl (by rfl) (by as_aux_lemma => kernel_rfl) (by as_aux_lemma => kernel_rfl) (by as_aux_lemma => kernel_rfl) hsh (by decide) (by intro _ _ _ h; exact h) (by assumption) (Or.inl ⟨by rfl, ?hy⟩) ?_; (case hy => (intro W _; go_simp; (try with_reducible rfl))); clear hsh; intro hsh
          refine wpAnyC_take (i := 10) (k := 11) (f := 40) (v := ?_) (d := some 117) rfl (by rfl) (by as_aux_lemma => kernel_rfl) (by as_aux_lemma => kernel_rfl) (by as_aux_lemma => kernel_rfl) hsh (by decide) (by as_aux_lemma => kernel_rfl) (by intro _ _ _ h; exact h) (by assumption) (Or.inl ⟨by rfl, ?hy⟩) ?_; (case hy => (rintro W ⟨b1, b2⟩; go_simp; (try with_reducible rfl))); clear hsh; intro hsh
          refine wpAnyC_ready (rs := [5]) (by as_aux_lemma => kernel_rfl) (by simp) ?_; refine AllC.cons (i := 5) rfl (by as_aux_lemma => kernel_rfl) hsh (fun K hK => ?_) AllC.nil
          go_simp
          go_at_call 7
          refine (CT.out wa.drew HJD.out).mono ?_
          rintro e w1 ⟨xx, rfl, hb1, hd1, hC1⟩
          have HS1 := HSS.out w1 _ (hd1 _ _ HBX.out)
          have HC1 := hide hC1
          have HB2 := hide ((below_drewN HB1.out 1).trans (HXB.out ▸ hb1))
          try go_simp
          refine hK _ _ (fun _ => HS1) ?_
          clear hK K hsh HS0 hb1 hd1 hC1
          intro hsh
          refine wpAnyC_tail (by as_aux_lemma => kernel_rfl) (by simp) (by as_aux_lemma => kernel_rfl) ?_; simp only [List.drop_succ_cons, List.drop_zero]; clear hsh
          go_simp
          clear HS1
          go_wp2_with (first | (go_at_call 8; refine (HC1.out _ (Below.refl _ _)).mono ?_; rintro e w2 ⟨rfl, hb2, hj2⟩; have HJ := hide hj2; have HBJ := hide (HB2.out.trans (HXB.out ▸ hb2)); clear hb2 hj2 HC1 HB2) | (go_at_call 16; refine (CG.out _ HJ.out).mono ?_; rintro e w3 ⟨v3, rfl, hb3, hC3⟩; have HC3 := hide hC3; have HB3 := hide hb3; clear hC3 hb3) | (go_at_call 17; refine (HC3.out _ (Below.refl _ _)).mono ?_; rintro e w4 ⟨v4, rfl, hb4, hC4⟩; have HC4 := hide hC4; have HB4 := hide hb4; clear hC4 hb4 HC3) | (go_at_call 15; refine (HC4.out _ (Below.refl _ _)).mono ?_; rintro e w5 ⟨rfl, hb5⟩; have HJ5 := hide (((HJ.out.below HB3.out).below HB4.out).below hb5); have HB5 := hide (((HBJ.out.trans (HB3.out.mono HBJ.out.size)).trans (HB4.out.mono (Nat.le_trans HBJ.out.size HB3.out.size))).trans (hb5.mono (Nat.le_trans HBJ.out.size (Nat.le_trans HB3.out.size HB4.out.size)))); clear hb5 HC4 HB3 HB4 HJ HBJ) | (go_at_call 20; refine (CH.out _ HJ5.out).mono ?_; rintro e w6 ⟨v6, rfl, hb6, hC6⟩; have HC6 := hide hC6; have HB6 := hide hb6; clear hC6 hb6) | (go_at_call 21; refine (HC6.out _ (Below.refl _ _)).mono ?_; rintro e w7 ⟨v7, rfl, hb7, hC7⟩; have HC7 := hide hC7; have HB7 := hide hb7; clear hC7 hb7 HC6) | (go_at_call 19; refine (HC7.out _ (Below.refl _ _)).mono ?_; rintro e w8 ⟨rfl, hb8⟩; have HJ8 := hide (((HJ5.out.below HB6.out).below HB7.out).below hb8); have HB8 := hide (((HB5.out.trans (HB6.out.mono HB5.out.size)).trans (HB7.out.mono (Nat.le_trans HB5.out.size HB6.out.size))).trans (hb8.mono (Nat.le_trans HB5.out.size (Nat.le_trans HB6.out.size HB7.out.size)))); clear hb8 HC7 HB6 HB7 HJ5 HB5))
          go_roundw
          case rel => exact ⟨i + 1, by omega, by go_num, HJ8.out, HB8.out⟩
          case measure => simp [intOf]; omega)
      have h1b : (wh == 1) = false := beq_eq_false_iff_ne.2 h1
      by_cases h2 : wh = 2
      · subst h2
        rcases HPR with ⟨rfl, rfl⟩ | ⟨pb, po, hn1, rfl, hpc⟩ <;> (
          have CT := hide (fun W (h : GJ X i W) (hb : Below w.heap.size w W) => Split_gj h hi100 a _ _ c _ (HXB.out ▸ HSQ.out.below hb) hnm HSF.out)
          go_wp2_with (first | (go_at_call 9; refine (CT.out _ HJA.out HB1.out).mono ?_; rintro e w1 ⟨yy, xx, rfl, hb1, hd1, hC1⟩; have HC1 := hide hC1; have hbx1 := hd1 _ _ HBX.out; have e1 : w1.cell? ⟨wr.heap.size, 1, none⟩ = some (.int .i64 a) := (block_cell hbx1 1).trans rfl; have e2 : w1.cell? ⟨wr.heap.size, 2, none⟩ = some (.int .i64 b) := (block_cell hbx1 2).trans rfl; have e3 : w1.cell? ⟨wr.heap.size, 3, none⟩ = some (.slice _ _ c) := (block_cell hbx1 3).trans rfl; have HB2 := hide (HB1.out.trans (HXB.out ▸ hb1)); clear hb1 hd1 hC1 hbx1) | (go_at_call 10; refine (HC1.out _ (Below.refl _ _)).mono ?_; rintro e w2 ⟨rfl, hb2, hj2⟩; have HJ := hide hj2; have HBJ := hide (HB2.out.trans (HXB.out ▸ hb2)); clear hb2 hj2 HC1 HB2; clear e1 e2 e3) | (go_at_call 16; refine (CG.out _ HJ.out).mono ?_; rintro e w3 ⟨v3, rfl, hb3, hC3⟩; have HC3 := hide hC3; have HB3 := hide hb3; clear hC3 hb3) | (go_at_call 17; refine (HC3.out _ (Below.refl _ _)).mono ?_; rintro e w4 ⟨v4, rfl, hb4, hC4⟩; have HC4 := hide hC4; have HB4 := hide hb4; clear hC4 hb4 HC3) | (go_at_call 15; refine (HC4.out _ (Below.refl _ _)).mono ?_; rintro e w5 ⟨rfl, hb5⟩; have HJ5 := hide (((HJ.out.below HB3.out).below HB4.out).below hb5); have HB5 := hide (((HBJ.out.trans (HB3.out.mono HBJ.out.size)).trans (HB4.out.mono (Nat.le_trans HBJ.out.size HB3.out.size))).trans (hb5.mono (Nat.le_trans HBJ.out.size (Nat.le_trans HB3.out.size HB4.out.size)))); clear hb5 HC4 HB3 HB4 HJ HBJ) | (go_at_call 20; refine (CH.out _ HJ5.out).mono ?_; rintro e w6 ⟨v6, rfl, hb6, hC6⟩; have HC6 := hide hC6; have HB6 := hide hb6; clear hC6 hb6) | (go_at_call 21; refine (HC6.out _ (Below.refl _ _)).mono ?_; rintro e w7 ⟨v7, rfl, hb7, hC7⟩; have HC7 := hide hC7; have HB7 := hide hb7; clear hC7 hb7 HC6) | (go_at_call 19; refine (HC7.out _ (Below.refl _ _)).mono ?_; rintro e w8 ⟨rfl, hb8⟩; have HJ8 := hide (((HJ5.out.below HB6.out).below HB7.out).below hb8); have HB8 := hide (((HB5.out.trans (HB6.out.mono HB5.out.size)).trans (HB7.out.mono (Nat.le_trans HB5.out.size HB6.out.size))).trans (hb8.mono (Nat.le_trans HB5.out.size (Nat.le_trans HB6.out.size HB7.out.size)))); clear hb8 HC7 HB6 HB7 HJ5 HB5))
          go_roundw
          case rel => exact ⟨i + 1, by omega, by go_num, HJ8.out, HB8.out⟩
          case measure => simp [intOf]; omega)
      have h2b : (wh == 2) = false := beq_eq_false_iff_ne.2 h2
      by_cases h3 : wh = 3
      · subst h3
        rcases HPR with ⟨rfl, rfl⟩ | ⟨pb, po, hn1, rfl, hpc⟩ <;> (
          have CT := hide (fun W (h : GJ X i W) => Undo_gj h hi100)
          go_wp2_with (first | (go_at_call 11; refine (CT.out _ HJA.out).mono ?_; rintro e w1 ⟨xx, rfl, hb1, hd1, hC1⟩; have HC1 := hide hC1; have hbx1 := hd1 _ _ HBX.out; have HB2 := hide (HB1.out.trans (HXB.out ▸ hb1)); clear hb1 hd1 hC1 hbx1) | (go_at_call 12; refine (HC1.out _ (Below.refl _ _)).mono ?_; rintro e w2 ⟨rfl, hb2, hj2⟩; have HJ := hide hj2; have HBJ := hide (HB2.out.trans (HXB.out ▸ hb2)); clear hb2 hj2 HC1 HB2) | (go_at_call 16; refine (CG.out _ HJ.out).mono ?_; rintro e w3 ⟨v3, rfl, hb3, hC3⟩; have HC3 := hide hC3; have HB3 := hide hb3; clear hC3 hb3) | (go_at_call 17; refine (HC3.out _ (Below.refl _ _)).mono ?_; rintro e w4 ⟨v4, rfl, hb4, hC4⟩; have HC4 := hide hC4; have HB4 := hide hb4; clear hC4 hb4 HC3) | (go_at_call 15; refine (HC4.out _ (Below.refl _ _)).mono ?_; rintro e w5 ⟨rfl, hb5⟩; have HJ5 := hide (((HJ.out.below HB3.out).below HB4.out).below hb5); have HB5 := hide (((HBJ.out.trans (HB3.out.mono HBJ.out.size)).trans (HB4.out.mono (Nat.le_trans HBJ.out.size HB3.out.size))).trans (hb5.mono (Nat.le_trans HBJ.out.size (Nat.le_trans HB3.out.size HB4.out.size)))); clear hb5 HC4 HB3 HB4 HJ HBJ) | (go_at_call 20; refine (CH.out _ HJ5.out).mono ?_; rintro e w6 ⟨v6, rfl, hb6, hC6⟩; have HC6 := hide hC6; have HB6 := hide hb6; clear hC6 hb6) | (go_at_call 21; refine (HC6.out _ (Below.refl _ _)).mono ?_; rintro e w7 ⟨v7, rfl, hb7, hC7⟩; have HC7 := hide hC7; have HB7 := hide hb7; clear hC7 hb7 HC6) | (go_at_call 19; refine (HC7.out _ (Below.refl _ _)).mono ?_; rintro e w8 ⟨rfl, hb8⟩; have HJ8 := hide (((HJ5.out.below HB6.out).below HB7.out).below hb8); have HB8 := hide (((HB5.out.trans (HB6.out.mono HB5.out.size)).trans (HB7.out.mono (Nat.le_trans HB5.out.size HB6.out.size))).trans (hb8.mono (Nat.le_trans HB5.out.size (Nat.le_trans HB6.out.size HB7.out.size)))); clear hb8 HC7 HB6 HB7 HJ5 HB5))
          go_roundw
          case rel => exact ⟨i + 1, by omega, by go_num, HJ8.out, HB8.out⟩
          case measure => simp [intOf]; omega)
      have h3b : (wh == 3) = false := beq_eq_false_iff_ne.2 h3
      rcases HPR with ⟨rfl, rfl⟩ | ⟨pb, po, hn1, rfl, hpc⟩ <;> (
        have CT := hide (fun W (h : GJ X i W) => Of_gj h hi100 _ hs9)
        go_wp2_with (first | (go_at_call 13; refine (CT.out _ HJA.out).mono ?_; rintro e w1 ⟨yy, xx, rfl, hb1, hd1, hC1⟩; have HC1 := hide hC1; have hbx1 := hd1 _ _ HBX.out; have HB2 := hide (HB1.out.trans (HXB.out ▸ hb1)); clear hb1 hd1 hC1 hbx1) | (go_at_call 14; refine (HC1.out _ (Below.refl _ _)).mono ?_; rintro e w2 ⟨rfl, hb2, hj2⟩; have HJ := hide hj2; have HBJ := hide (HB2.out.trans (HXB.out ▸ hb2)); clear hb2 hj2 HC1 HB2) | (go_at_call 16; refine (CG.out _ HJ.out).mono ?_; rintro e w3 ⟨v3, rfl, hb3, hC3⟩; have HC3 := hide hC3; have HB3 := hide hb3; clear hC3 hb3) | (go_at_call 17; refine (HC3.out _ (Below.refl _ _)).mono ?_; rintro e w4 ⟨v4, rfl, hb4, hC4⟩; have HC4 := hide hC4; have HB4 := hide hb4; clear hC4 hb4 HC3) | (go_at_call 15; refine (HC4.out _ (Below.refl _ _)).mono ?_; rintro e w5 ⟨rfl, hb5⟩; have HJ5 := hide (((HJ.out.below HB3.out).below HB4.out).below hb5); have HB5 := hide (((HBJ.out.trans (HB3.out.mono HBJ.out.size)).trans (HB4.out.mono (Nat.le_trans HBJ.out.size HB3.out.size))).trans (hb5.mono (Nat.le_trans HBJ.out.size (Nat.le_trans HB3.out.size HB4.out.size)))); clear hb5 HC4 HB3 HB4 HJ HBJ) | (go_at_call 20; refine (CH.out _ HJ5.out).mono ?_; rintro e w6 ⟨v6, rfl, hb6, hC6⟩; have HC6 := hide hC6; have HB6 := hide hb6; clear hC6 hb6) | (go_at_call 21; refine (HC6.out _ (Below.refl _ _)).mono ?_; rintro e w7 ⟨v7, rfl, hb7, hC7⟩; have HC7 := hide hC7; have HB7 := hide hb7; clear hC7 hb7 HC6) | (go_at_call 19; refine (HC7.out _ (Below.refl _ _)).mono ?_; rintro e w8 ⟨rfl, hb8⟩; have HJ8 := hide (((HJ5.out.below HB6.out).below HB7.out).below hb8); have HB8 := hide (((HB5.out.trans (HB6.out.mono HB5.out.size)).trans (HB7.out.mono (Nat.le_trans HB5.out.size HB6.out.size))).trans (hb8.mono (Nat.le_trans HB5.out.size (Nat.le_trans HB6.out.size HB7.out.size)))); clear hb8 HC7 HB6 HB7 HJ5 HB5))
        go_roundw
        case rel => exact ⟨i + 1, by omega, by go_num, HJ8.out, HB8.out⟩
        case measure => simp [intOf]; omega)
    · have hik : i = kk := by omega
      subst hik
      have hlt' : ¬ (i : Int) < (i : Int) := by omega
      go_wp2_with (fail)
      refine bodyPost_ret (by simp [results, Tryz.results3, go_sem]; try rfl) rfl ?_
      exact ⟨rfl, HBW.out⟩
end Go.Proofs.YtapfcnfmonknjaaGreatDoor.Bk
