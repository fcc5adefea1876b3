/- The reference's book: Merge. -/
import Derived.Test.YtapfcnfmonknjaaGreatDoorRbS
namespace Go.Proofs.YtapfcnfmonknjaaGreatDoor.Bk
open Go.RowKit Go.Maps Go.Sort
set_option linter.unusedVariables false
set_option linter.unusedSimpArgs false
set_option maxRecDepth 100000 in
set_option maxHeartbeats 8000000 in
theorem RMerge_bad {B q : Nat} {given : Int} {lv sv : Value} {lr : List Pr} {w : World} (h : RM B w q lv given sv lr) (hu : Up lr) (hl : lr.length ≤ 1000) (a b : Int) (hE : mE lr a b ≠ 0) :
    Calls Tryz.prog 8 #[.pointer (some ⟨q, 0, none⟩), .int .i64 a, .int .i64 b] w fun e w' => e = .returned (.int .i64 (mE lr a b)) ∧ Below w.heap.size w w' := by
  have HH := hide h
  have CP := hide (fun (W : World) (hb : Below w.heap.size w W) (id : Int) (n : Nat) (hn : (prs id lr).length = n) => RPrintsOf_n (HH.out.below hb) hu hl id n hn)
  obtain ⟨nb, hnb⟩ : ∃ n, (prs b lr).length = n := ⟨_, rfl⟩
  obtain ⟨na, hna⟩ : ∃ n, (prs a lr).length = n := ⟨_, rfl⟩
  have HNB := hide hnb
  have HNA := hide hna
  by_cases h2 : prs a lr = []
  · have E := hide (show mE lr a b = 7 by rw [mE, if_pos (.inr h2)])
    have hn2 : ((na : Int) == 0) = true := by rw [← hna, h2]; rfl
    clear hE h h2 hnb hna
    by_cases hab : a = b
    · subst hab
      go_enter Tryz.func8, Tryz.ntmps8
      go_wp2_with (first
        | (go_at_call 33; with_reducible refine (CP.out _ HB1.out a _ HNB.out).mono ?_; rintro e w2 ⟨A2, c2, rfl, hr2, hw2⟩; have HB2 := hide (HB1.out.trans (hw2.mono HB1.out.size)); clear hr2 hw2)
        | (go_at_call 33; with_reducible refine (CP.out _ (Below.refl _ _) a _ HNA.out).mono ?_; rintro e w1 ⟨A, c, rfl, hr, hw1⟩; have HB1 := hide hw1; clear hr hw1))
      go_ret
      exact ⟨by rw [E.out]; rfl, HB2.out⟩
    · go_enter Tryz.func8, Tryz.ntmps8
      go_wp2_with (first | (go_at_call 33; with_reducible refine (CP.out _ (Below.refl _ _) a _ HNA.out).mono ?_; rintro e w1 ⟨A, c, rfl, hr, hw1⟩; have HB1 := hide hw1; have HR1 := hide hr; clear hr hw1) | (go_at_call 33; with_reducible refine (CP.out _ HB1.out b _ HNB.out).mono ?_; rintro e w2 ⟨A2, c2, rfl, hr2, hw2⟩; have HB2 := hide (HB1.out.trans (hw2.mono HB1.out.size)); have HR2 := hide hr2; clear hr2 hw2))
      go_ret
      exact ⟨by rw [E.out]; rfl, HB2.out⟩
  · have hn2 : ((na : Int) == 0) = false := beq_eq_false_iff_ne.2 fun e => h2 (len_zero.1 (by rw [hna]; exact e))
    by_cases hab : a = b
    · subst hab
      have E := hide (show mE lr a a = 1 by rw [mE, if_neg (by rintro (h | h) <;> exact h2 h), if_pos rfl])
      have hn : ((nb : Int) == 0) = false := beq_eq_false_iff_ne.2 fun e => h2 (len_zero.1 (by rw [hnb]; exact e))
      clear hE h h2 hnb hna
      go_enter Tryz.func8, Tryz.ntmps8
      go_wp2_with (first
        | (go_at_call 33; with_reducible refine (CP.out _ HB1.out a _ HNB.out).mono ?_; rintro e w2 ⟨A2, c2, rfl, hr2, hw2⟩; have HB2 := hide (HB1.out.trans (hw2.mono HB1.out.size)); clear hr2 hw2)
        | (go_at_call 33; with_reducible refine (CP.out _ (Below.refl _ _) a _ HNA.out).mono ?_; rintro e w1 ⟨A, c, rfl, hr, hw1⟩; have HB1 := hide hw1; clear hr hw1))
      go_ret
      exact ⟨by rw [E.out]; rfl, HB2.out⟩
    · have h1 : prs b lr = [] := Decidable.byContradiction fun h1 => hE (by rw [mE, if_neg (by rintro (h | h); exact h1 h; exact h2 h), if_neg hab])
      have E := hide (show mE lr a b = 7 by rw [mE, if_pos (.inl h1)])
      have hn : ((nb : Int) == 0) = true := by rw [← hnb, h1]; rfl
      clear hE h h2 hnb hna h1
      go_enter Tryz.func8, Tryz.ntmps8
      go_wp2_with (first | (go_at_call 33; with_reducible refine (CP.out _ (Below.refl _ _) a _ HNA.out).mono ?_; rintro e w1 ⟨A, c, rfl, hr, hw1⟩; have HB1 := hide hw1; have HR1 := hide hr; clear hr hw1) | (go_at_call 33; with_reducible refine (CP.out _ HB1.out b _ HNB.out).mono ?_; rintro e w2 ⟨A2, c2, rfl, hr2, hw2⟩; have HB2 := hide (HB1.out.trans (hw2.mono HB1.out.size)); have HR2 := hide hr2; clear hr2 hw2))
      go_ret
      exact ⟨by rw [E.out]; rfl, HB2.out⟩
set_option maxRecDepth 100000 in
set_option maxHeartbeats 8000000 in
theorem RMerge_ok {B q : Nat} {given : Int} {lv sv : Value} {lr : List Pr} {ss : List Stp} {w : World} (h : RS B w q lv given sv lr ss) (hu : Up lr) (hl : lr.length ≤ 1000) (a b : Int) (hE : mE lr a b = 0) (hss : ss.length < 400) (hBz : B ≤ w.heap.size) :
    Calls Tryz.prog 8 #[.pointer (some ⟨q, 0, none⟩), .int .i64 a, .int .i64 b] w fun e w' => e = .returned (.int .i64 0) ∧
      ∃ sv' st, RS B w' q lv given sv' (mvL (prs b lr) a lr) (ss ++ [st]) ∧ st.kind = 1 ∧ st.a = a ∧ st.b = b ∧ st.ps = prs b lr ∧ Keep B (RSB q lv sv ss) w w' ∧ (∀ k, RSB q lv sv' (ss ++ [st]) k → RSB q lv sv ss k ∨ w.heap.size ≤ k) := by
  obtain ⟨h1, h2, h3⟩ := mE_ok hE
  obtain ⟨i0, hi0, iz0, iz1, iz2⟩ := info_parts info_step
  have HH := hide h
  have CP := hide (fun (W : World) (hb : Below w.heap.size w W) (id : Int) (n : Nat) (hn : (prs id lr).length = n) => RPrintsOf_n (HH.out.rm.below hb) hu hl id n hn)
  obtain ⟨nb, hnb⟩ : ∃ n, (prs b lr).length = n := ⟨_, rfl⟩
  obtain ⟨na, hna⟩ : ∃ n, (prs a lr).length = n := ⟨_, rfl⟩
  have HNB := hide hnb
  have HNA := hide hna
  have hn : ((nb : Int) == 0) = false := beq_eq_false_iff_ne.2 fun e => h1 (len_zero.1 (by rw [hnb]; exact e))
  have hn2 : ((na : Int) == 0) = false := beq_eq_false_iff_ne.2 fun e => h2 (len_zero.1 (by rw [hna]; exact e))
  have hpl : nb ≤ 1000 := by have := prs_len b lr; omega
  obtain ⟨SA, sc, rfl⟩ := own_sl h.row
  have hss' : (ss.length : Int) < 400 := by omega
  clear hE h1 h2 h hnb hna
  go_enter Tryz.func8, Tryz.ntmps8
  go_wp2_with (first
    | (go_at_call 33; with_reducible refine (CP.out _ (Below.refl _ _) a _ HNA.out).mono ?_; rintro e w1 ⟨A1, c1, rfl, hr, hw1⟩; have HB1 := hide hw1; clear hr hw1)
    | (go_at_call 33; with_reducible refine (CP.out _ HB1.out b _ HNB.out).mono ?_; rintro e w2 ⟨A, c, rfl, hr2, hw2⟩; have HB2 := hide (HB1.out.trans (hw2.mono HB1.out.size)); have HR2 := hide (World.ownsRow.mono hr2 HB1.out.size); have HS2 := hide (HH.out.below HB2.out); have z2 : w2.cell? ⟨q, 2, none⟩ = some (.slice SA ss.length sc) := (block_cell HS2.out.rm.box 2).trans rfl; clear hr2 hw2)
    | (go_at_call 34; (refine (RMove_any HS2.out.rm a A nb c (prs b lr) (rowS HR2.out HNB.out) (fun _ b o e hp => rrowY HR2.out HS2.out.rm (k := b) (by rw [e]; rfl) (.inr hp)) (by omega) hl (Nat.le_trans hBz HB2.out.size)).mono ?_); rintro e w3 ⟨rfl, hm3, hk3⟩; have HB3 := hide hk3; have HS3 := hide (HS2.out.book hm3 (fun k o e u => hk3.keep k o e u) (fun k hp => .inr hp)); have HR3 := hide (own_stayB HR2.out fun k o e eo => hk3.keep k o eo (fun hp => rrowY HR2.out HS2.out.rm e (.inr hp))); have z3 : w3.cell? ⟨q, 2, none⟩ = some (.slice SA ss.length sc) := (block_cell HS3.out.rm.box 2).trans rfl; have f3 : w3.frozen? ⟨q, 2, none⟩ = false := block_free HS3.out.rm.box 2; have HZ3 := hide (show w.heap.size ≤ w3.heap.size from Nat.le_trans HB2.out.size hk3.be.size); clear hm3 hk3 z2)
    | (at_builtin; refine wpList_append_own_at _ rfl (.tmp 43) (.tmp 48) 27 rfl B 49 i0 (.agg #[.int .i64 0, .int .i64 0, .int .i64 0, .slice none 0 0]) 4 48 Tryz.underlying27 hi0 iz0 iz1 iz2 rfl (by decide) (.slice SA ss.length sc) ss.length (ss.flatMap Stp.cs) rfl (HS3.out.row.alloc _) ⟨w3.heap.size, 0, none⟩ 1 1 [.int .i64 1, .int .i64 a, .int .i64 b, .slice A nb c] rfl rfl (cells_at _ [.int .i64 1, .int .i64 a, .int .i64 b, .slice A nb c] _ _ rfl) (by intro u hu; simp at hu; rcases hu with rfl | rfl | rfl | rfl <;> rfl) (by unfold maxLen; omega) (by omega) (by have := HZ3.out; simp; omega) ?_; intro v8 w8 hown8 hg8 _ hat8; obtain ⟨A8, c8, rfl⟩ := own_sl hown8
       have HST := hide (rst8 HS3.out hown8 hg8); have HAT8 := hide hat8; have z8 : w8.cell? ⟨q, 2, none⟩ = some (.slice SA ss.length sc) := (block_cell (HST.out.1 _ _ HS3.out.rm.box (fun e => HS3.out.row_ne e (.inl rfl))) 2).trans rfl; have f8 : w8.frozen? ⟨q, 2, none⟩ = false := block_free (HST.out.1 _ _ HS3.out.rm.box (fun e => HS3.out.row_ne e (.inl rfl))) 2; have HO8 := hide hown8; clear hown8 hg8 hat8 z3 f3))
  go_ret
  have hb8 := HST.out.1 _ _ HS3.out.rm.box (fun e => HS3.out.row_ne e (.inl rfl))
  have hz8 := HST.out.2.1
  have hk9 : ∀ k o, w3.heap[k]? = some o → k ≠ q → (Value.slice SA ss.length sc).ownBlock ≠ some k → (w8.setCell ⟨q, 2, none⟩ (.slice A8 (ss.length + 1) c8)).heap[k]? = some o := fun k o e ne nv => block_set_other (HST.out.1 k o e nv) _ _ ne
  have hne3 : ∀ k, (Value.slice A nb c).ownBlock = some k → k ≠ q ∧ (Value.slice SA ss.length sc).ownBlock ≠ some k := fun k e => by
    refine ⟨fun e2 => rrowY HR3.out HS3.out.rm e (.inl e2), fun e2 => ?_⟩
    obtain ⟨cur, h1⟩ := row_blkB HR3.out e
    obtain ⟨cur2, h2⟩ := row_blkB HS3.out.row e2
    rw [h1] at h2
    cases h2
  have hz2 := HB2.out.size
  refine ⟨rfl, .slice A8 (ss.length + 1) c8, ⟨1, a, b, A, nb, c, prs b lr⟩, ?_, rfl, rfl, rfl, rfl, ?_, ?_⟩
  · refine HS3.out.push ⟨1, a, b, A, nb, c, prs b lr⟩ _ (block_set hb8 _) (own_stayB HO8.out fun k o e eo => block_set_other eo _ _ (fun e2 => own_other' HO8.out hb8 (by decide) (by rw [e, show k = q from e2]))) ?_ hk9
    rw [show (⟨1, a, b, A, nb, c, prs b lr⟩ : Stp).ps.length = nb from HNB.out]
    exact World.ownsRow.mono (own_stayB HR3.out fun k o e eo => hk9 k o eo (hne3 k e).1 (hne3 k e).2) hBz
  · have k1 : Keep B (RSB q lv (.slice SA ss.length sc) ss) w w2 := Keep.of_below HB2.out hBz
    have k2 : Keep B (RSB q lv (.slice SA ss.length sc) ss) w2 w3 := HB3.out.mono (Nat.le_refl _) (fun k hk => .inl (.inr hk))
    have k3 : Keep B (RSB q lv (.slice SA ss.length sc) ss) w3 w8 := ⟨HST.out.2.2 B (by have := HZ3.out; omega) (fun k e => (HS3.out.row.lt k e).1), fun k o e ne => HST.out.1 k o e (fun e2 => ne (.inr (.inl e2)))⟩
    exact ((k1.trans k2).trans k3).trans (Keep.set _ 2 _ HH.out.rm.lo (.inl (.inl rfl)))
  · rintro k (hk | hk | ⟨s, hs, hk⟩)
    · exact .inl (.inl hk)
    · rcases HAT8.out with h | h
      · exact .inl (.inr (.inl (by rw [← h]; exact hk)))
      · rw [h] at hk
        have h9 := Option.some.inj hk
        simp at h9
        right
        have := HZ3.out
        omega
    · rcases List.mem_append.1 hs with hs | hs
      · exact .inl (.inr (.inr ⟨s, hs, hk⟩))
      · rw [List.mem_singleton.1 hs] at hk
        exact .inr ((HR2.out.lt k hk).1)
end Go.Proofs.YtapfcnfmonknjaaGreatDoor.Bk
