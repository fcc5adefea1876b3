/- Merge. -/
import Derived.Test.YtapfcnfmonknjaaGreatDoorBkSt
namespace Go.Proofs.YtapfcnfmonknjaaGreatDoor.Bk
open Go.RowKit Go.Maps Go.Sort
set_option linter.unusedVariables false
set_option linter.unusedSimpArgs false
def mE (l : List Pr) (a b : Int) : Int := if prs b l = [] ∨ prs a l = [] then 7 else if a = b then 1 else 0
theorem PrintsOf_n {B0 p mb mn : Nat} {last : Int} {sv : Value} {l : List Pr} {bk : List UInt8 → Nat} {w : World} (h : BM B0 w p mb mn last sv l bk) (hnd : (l.map Pr.p).Nodup) (hl : l.length ≤ 1000) (id : Int) (n : Nat) (hn : (prs id l).length = n) :
    Calls Tryz.prog 31 #[.pointer (some ⟨p, 0, none⟩), .int .i64 id] w fun e w' => ∃ A c, e = .returned (.slice A n c) ∧ w'.ownsRow w.heap.size 9 1 (.slice A n c) n ((prs id l).map encStr) ∧ Below w.heap.size w w' := by
  refine (PrintsOf_any h hnd hl id).mono ?_
  rintro e w' ⟨v, rfl, hr, hb⟩
  rw [hn] at hr
  obtain ⟨A, c, rfl⟩ := own_sl hr
  exact ⟨A, c, rfl, hr, hb⟩
theorem len_zero {l : List (List UInt8)} : ((l.length : Int) = 0) ↔ l = [] := by
  rw [← List.length_eq_zero_iff]; omega
set_option maxRecDepth 100000 in
set_option maxHeartbeats 8000000 in
theorem Merge_bad {B0 p mb mn : Nat} {last : Int} {sv : Value} {l : List Pr} {bk : List UInt8 → Nat} {w : World} (h : BM B0 w p mb mn last sv l bk) (hnd : (l.map Pr.p).Nodup) (hl : l.length ≤ 1000) (a b : Int) (hE : mE l a b ≠ 0) :
    Calls Tryz.prog 7 #[.pointer (some ⟨p, 0, none⟩), .int .i64 a, .int .i64 b] w fun e w' => e = .returned (.int .i64 (mE l a b)) ∧ Below w.heap.size w w' := by
  have HH := hide h
  have CP := hide (fun (W : World) (hb : Below w.heap.size w W) (id : Int) (n : Nat) (hn : (prs id l).length = n) => PrintsOf_n (HH.out.below hb) hnd hl id n hn)
  obtain ⟨nb, hnb⟩ : ∃ n, (prs b l).length = n := ⟨_, rfl⟩
  obtain ⟨na, hna⟩ : ∃ n, (prs a l).length = n := ⟨_, rfl⟩
  have HNB := hide hnb
  have HNA := hide hna
  by_cases h1 : prs b l = []
  · have E := hide (show mE l a b = 7 by rw [mE, if_pos (.inl h1)])
    have hn : nb = 0 := by rw [← hnb, h1]; rfl
    clear hE h1 h hnb hna
    subst hn
    go_enter Tryz.func7, Tryz.ntmps7
    go_wp2_with (go_at_call 31; refine (CP.out _ (Below.refl _ _) _ _ HNB.out).mono ?_; rintro e w1 ⟨A, c, rfl, hr, hw1⟩)
    go_ret
    exact ⟨by rw [E.out]; rfl, hw1⟩
  · have hn : ((nb : Int) == 0) = false := beq_eq_false_iff_ne.2 fun e => h1 (len_zero.1 (by rw [hnb]; exact e))
    by_cases h2 : prs a l = []
    · have E := hide (show mE l a b = 7 by rw [mE, if_pos (.inr h2)])
      have hn2 : na = 0 := by rw [← hna, h2]; rfl
      clear hE h1 h h2 hnb hna
      subst hn2
      go_enter Tryz.func7, Tryz.ntmps7
      go_wp2_with (first
        | (go_at_call 31; with_reducible refine (CP.out _ (Below.refl _ _) b _ HNB.out).mono ?_; rintro e w1 ⟨A, c, rfl, hr, hw1⟩; have HB1 := hide hw1; clear hr hw1)
        | (go_at_call 31; with_reducible refine (CP.out _ HB1.out a _ HNA.out).mono ?_; rintro e w2 ⟨A2, c2, rfl, hr2, hw2⟩; have HB2 := hide (HB1.out.trans (hw2.mono HB1.out.size)); clear hr2 hw2))
      go_ret
      exact ⟨by rw [E.out]; rfl, HB2.out⟩
    · have hn2 : ((na : Int) == 0) = false := beq_eq_false_iff_ne.2 fun e => h2 (len_zero.1 (by rw [hna]; exact e))
      have h3 : a = b := by
        rw [mE, if_neg (by rintro (h | h); exact h1 h; exact h2 h)] at hE
        exact Decidable.byContradiction fun h => hE (if_neg h)
      have E := hide (show mE l a b = 1 by rw [mE, if_neg (by rintro (h | h); exact h1 h; exact h2 h), if_pos h3])
      clear hE h1 h h2 hnb hna
      subst h3
      go_enter Tryz.func7, Tryz.ntmps7
      go_wp2_with (first
        | (go_at_call 31; with_reducible refine (CP.out _ HB1.out a _ HNA.out).mono ?_; rintro e w2 ⟨A2, c2, rfl, hr2, hw2⟩; have HB2 := hide (HB1.out.trans (hw2.mono HB1.out.size)); clear hr2 hw2)
        | (go_at_call 31; with_reducible refine (CP.out _ (Below.refl _ _) a _ HNB.out).mono ?_; rintro e w1 ⟨A, c, rfl, hr, hw1⟩; have HB1 := hide hw1; clear hr hw1))
      go_ret
      exact ⟨by rw [E.out]; rfl, HB2.out⟩
theorem mE_ok {l : List Pr} {a b : Int} (h : mE l a b = 0) : prs b l ≠ [] ∧ prs a l ≠ [] ∧ a ≠ b := by
  unfold mE at h
  split at h
  · cases h
  · rename_i h1
    rw [not_or] at h1
    split at h
    · cases h
    · rename_i h2; exact ⟨h1.1, h1.2, h2⟩
theorem rowS {B n : Nat} {w : World} {A : Option Addr} {c : Nat} {ps : List (List UInt8)} (h : w.ownsRow B 9 1 (.slice A n c) n (ps.map encStr)) (hn : ps.length = n) : Sl w w.heap.size se 1 A n ps := by
  obtain ⟨A', c', e, hs, _⟩ := sl_row h hn
  cases e
  exact hs
section
variable {B B' n p mb mn : Nat} {last : Int} {sv : Value} {l : List Pr} {bk : List UInt8 → Nat} {ss : List Stp} {w : World} {A : Option Addr} {c : Nat} {ps : List (List UInt8)}
theorem rowY (h : w.ownsRow B' 9 1 (.slice A n c) n (ps.map encStr)) (hM : BM B w p mb mn last sv l bk) {k : Nat} (hk : (Value.slice A n c).ownBlock = some k) : ¬ BB p mb l bk k := by
  obtain ⟨cur, hb⟩ := row_blkB h hk
  exact hM.ne_row hb (.inr rfl)
theorem rowX (h : w.ownsRow B' 9 1 (.slice A n c) n (ps.map encStr)) (hM : BM B w p mb mn last sv l bk) : 0 < n → ∀ b o, A = some ⟨b, o, none⟩ → ¬ ∃ r ∈ l, b = bk r.p :=
  fun _ b o e hp => rowY h hM (by rw [e]; rfl) (.inr (.inr hp))
/-- Behind an append to the row of steps. -/
theorem st8 {SA : Option Addr} {sc : Nat} {w8 : World} {o8 : Obj} {v8 : Value} {xs : List Value} {m : Nat} (h : BS B w p mb mn last (.slice SA ss.length sc) l bk ss) (hown : w8.ownsRow B 49 4 v8 m xs) (hg : (w.alloc o8).grownBy w8 (Value.slice SA ss.length sc).ownBlock) :
    (∀ k o, w.heap[k]? = some o → (Value.slice SA ss.length sc).ownBlock ≠ some k → w8.heap[k]? = some o) ∧ w.heap.size ≤ w8.heap.size ∧ (∀ B, B ≤ w.heap.size → (∀ k, (Value.slice SA ss.length sc).ownBlock = some k → B ≤ k) → Below B w w8) := by
  have hz := hg.size
  have hzz : (w.alloc o8).heap.size = w.heap.size + 1 := by simp
  refine ⟨fun k o e ne => ?_, by omega, fun B hB hlo => ((Below.refl _ _).alloc hB o8).grown hg (by omega) (fun j hj => hlo j hj)⟩
  exact (hg.block k (by have := lt_of_block e; omega) (fun e2 => ne e2.symm)).trans (block_below e ((Below.refl _ _).alloc (Nat.le_refl _) o8))
end
set_option maxRecDepth 100000 in
set_option maxHeartbeats 8000000 in
theorem Merge_ok {B p mb mn : Nat} {last : Int} {sv : Value} {l : List Pr} {bk : List UInt8 → Nat} {ss : List Stp} {w : World} (h : BS B w p mb mn last sv l bk ss) (hnd : (l.map Pr.p).Nodup) (hl : l.length ≤ 1000) (hsz : ∀ r ∈ l, r.p.length ≤ 200) (a b : Int) (hE : mE l a b = 0)
    (hss : ss.length < 400) (hBz : B ≤ w.heap.size) :
    Calls Tryz.prog 7 #[.pointer (some ⟨p, 0, none⟩), .int .i64 a, .int .i64 b] w fun e w' => e = .returned (.int .i64 0) ∧
      ∃ sv' st, BS B w' p mb mn last sv' (mvL (prs b l) a l) bk (ss ++ [st]) ∧ st.kind = 1 ∧ st.a = a ∧ st.b = b ∧ st.ps = prs b l ∧ Keep B (SB p mb sv l bk ss) w w' ∧ (∀ k, SB p mb sv' (mvL (prs b l) a l) bk (ss ++ [st]) k → SB p mb sv l bk ss k ∨ w.heap.size ≤ k) := by
  obtain ⟨h1, h2, h3⟩ := mE_ok hE
  obtain ⟨i0, hi0, iz0, iz1, iz2⟩ := info_parts info_step
  have HH := hide h
  have CP := hide (fun (W : World) (hb : Below w.heap.size w W) (id : Int) (n : Nat) (hn : (prs id l).length = n) => PrintsOf_n (HH.out.bm.below hb) hnd hl id n hn)
  obtain ⟨nb, hnb⟩ : ∃ n, (prs b l).length = n := ⟨_, rfl⟩
  obtain ⟨na, hna⟩ : ∃ n, (prs a l).length = n := ⟨_, rfl⟩
  have HNB := hide hnb
  have HNA := hide hna
  have hn : ((nb : Int) == 0) = false := beq_eq_false_iff_ne.2 fun e => h1 (len_zero.1 (by rw [hnb]; exact e))
  have hn2 : ((na : Int) == 0) = false := beq_eq_false_iff_ne.2 fun e => h2 (len_zero.1 (by rw [hna]; exact e))
  have hpl : nb ≤ 1000 := by have := prs_len b l; omega
  have HIN := hide (show ∀ s ∈ prs b l, s ∈ l.map Pr.p from fun s hs => by
    obtain ⟨r, hr, _, e⟩ := mem_prs.1 hs
    exact List.mem_map.2 ⟨r, hr, e⟩)
  have HSZ := hide (show ∀ s ∈ prs b l, s.length ≤ maxLen from fun s hs => by
    obtain ⟨r, hr, _, e⟩ := mem_prs.1 hs
    have := hsz r hr
    rw [← e]; unfold maxLen; omega)
  obtain ⟨SA, sc, rfl⟩ := own_sl h.row
  have hss' : (ss.length : Int) < 400 := by omega
  clear hE h1 h2 h hsz hnb hna
  go_enter Tryz.func7, Tryz.ntmps7
  go_wp2_with (first
    | (go_at_call 31; with_reducible refine (CP.out _ (Below.refl _ _) b _ HNB.out).mono ?_; rintro e w1 ⟨A, c, rfl, hr, hw1⟩; have HR1 := hide hr; have HB1 := hide hw1; clear hr hw1)
    | (go_at_call 31; with_reducible refine (CP.out _ HB1.out a _ HNA.out).mono ?_; rintro e w2 ⟨A2, c2, rfl, hr2, hw2⟩; have HB2 := hide (HB1.out.trans (hw2.mono HB1.out.size)); have HR2 := hide (own_below HR1.out hw2); have HS2 := hide (HH.out.below HB2.out); have z2 : w2.cell? ⟨p, 2, none⟩ = some (.slice SA ss.length sc) := (block_cell HS2.out.bm.box 2).trans rfl; clear hr2 hw2)
    | (go_at_call 32; (refine (Move_any HS2.out.bm a A nb c (prs b l) (rowS HR2.out HNB.out) HIN.out HSZ.out (rowX HR2.out HS2.out.bm) (by omega) (Nat.le_trans hBz HB2.out.size)).mono ?_); rintro e w3 ⟨rfl, hm3, hk3⟩; have HB3 := hide hk3; have HS3 := hide (HS2.out.book hm3 (fun k o e u => hk3.keep k o e u) (fun k hp => .inr (.inr hp))); have HR3 := hide (own_stayB HR2.out fun k o e eo => hk3.keep k o eo (fun hp => rowY HR2.out HS2.out.bm e (.inr (.inr hp)))); have z3 : w3.cell? ⟨p, 2, none⟩ = some (.slice SA ss.length sc) := (block_cell HS3.out.bm.box 2).trans rfl; have f3 : w3.frozen? ⟨p, 2, none⟩ = false := block_free HS3.out.bm.box 2; have HZ3 := hide (show w.heap.size ≤ w3.heap.size from Nat.le_trans HB2.out.size hk3.be.size); clear hm3 hk3 z2)
    | (at_builtin; refine wpList_append_own_at _ rfl (.tmp 41) (.tmp 46) 27 rfl B 49 i0 (.agg #[.int .i64 0, .int .i64 0, .int .i64 0, .slice none 0 0]) 4 48 Tryz.underlying27 hi0 iz0 iz1 iz2 rfl (by decide) (.slice SA ss.length sc) ss.length (ss.flatMap Stp.cs) rfl (HS3.out.row.alloc _) ⟨w3.heap.size, 0, none⟩ 1 1 [.int .i64 1, .int .i64 a, .int .i64 b, .slice A nb c] rfl rfl (cells_at _ [.int .i64 1, .int .i64 a, .int .i64 b, .slice A nb c] _ _ rfl) (by intro u hu; simp at hu; rcases hu with rfl | rfl | rfl | rfl <;> rfl) (by unfold maxLen; omega) (by omega) (by have := HZ3.out; simp; omega) ?_; intro v8 w8 hown8 hg8 _ hat8; obtain ⟨A8, c8, rfl⟩ := own_sl hown8
       have HST := hide (st8 HS3.out hown8 hg8); have HAT8 := hide hat8; have z8 : w8.cell? ⟨p, 2, none⟩ = some (.slice SA ss.length sc) := (block_cell (HST.out.1 _ _ HS3.out.bm.box (fun e => HS3.out.row_ne e (.inl rfl))) 2).trans rfl; have f8 : w8.frozen? ⟨p, 2, none⟩ = false := block_free (HST.out.1 _ _ HS3.out.bm.box (fun e => HS3.out.row_ne e (.inl rfl))) 2; have HO8 := hide hown8; clear hown8 hg8 hat8 z3 f3))
  go_ret
  have hb8 := HST.out.1 _ _ HS3.out.bm.box (fun e => HS3.out.row_ne e (.inl rfl))
  have hbs := fun k => HS3.out.row_ne (k := k)
  have hz8 := HST.out.2.1
  have hk9 : ∀ k o, w3.heap[k]? = some o → k ≠ p → (Value.slice SA ss.length sc).ownBlock ≠ some k → (w8.setCell ⟨p, 2, none⟩ (.slice A8 (ss.length + 1) c8)).heap[k]? = some o := fun k o e ne nv => block_set_other (HST.out.1 k o e nv) _ _ ne
  have hne3 : ∀ k, (Value.slice A nb c).ownBlock = some k → k ≠ p ∧ (Value.slice SA ss.length sc).ownBlock ≠ some k := fun k e => by
    refine ⟨fun e2 => rowY HR3.out HS3.out.bm e (.inl e2), fun e2 => ?_⟩
    obtain ⟨cur, h1⟩ := row_blkB HR3.out e
    obtain ⟨cur2, h2⟩ := row_blkB HS3.out.row e2
    rw [h1] at h2
    cases h2
  have hz2 := HB2.out.size
  refine ⟨rfl, .slice A8 (ss.length + 1) c8, ⟨1, a, b, A, nb, c, prs b l⟩, ?_, rfl, rfl, rfl, rfl, ?_, ?_⟩
  · refine HS3.out.push ⟨1, a, b, A, nb, c, prs b l⟩ _ (block_set hb8 _) (own_stayB HO8.out fun k o e eo => block_set_other eo _ _ (fun e2 => own_other' HO8.out hb8 (by decide) (by rw [e, show k = p from e2]))) ?_ hk9
    rw [show (⟨1, a, b, A, nb, c, prs b l⟩ : Stp).ps.length = nb from HNB.out]
    exact World.ownsRow.mono (own_stayB HR3.out fun k o e eo => hk9 k o eo (hne3 k e).1 (hne3 k e).2) hBz
  · have k1 : Keep B (SB p mb (.slice SA ss.length sc) l bk ss) w w2 := Keep.of_below HB2.out hBz
    have k2 : Keep B (SB p mb (.slice SA ss.length sc) l bk ss) w2 w3 := HB3.out.mono (Nat.le_refl _) (fun k hk => .inl (.inr (.inr hk)))
    have k3 : Keep B (SB p mb (.slice SA ss.length sc) l bk ss) w3 w8 := ⟨HST.out.2.2 B (by have := HZ3.out; omega) (fun k e => (HS3.out.row.lt k e).1), fun k o e ne => HST.out.1 k o e (fun e2 => ne (.inr (.inl e2)))⟩
    exact ((k1.trans k2).trans k3).trans (Keep.set _ 2 _ HH.out.bm.pl (.inl (.inl rfl)))
  · rintro k (hk | hk | ⟨s, hs, hk⟩)
    · rcases hk with hk | hk | ⟨r, hr, hk⟩
      · exact .inl (.inl (.inl hk))
      · exact .inl (.inl (.inr (.inl hk)))
      · obtain ⟨x, hx, e, _⟩ := mem_mvL hr
        exact .inl (.inl (.inr (.inr ⟨x, hx, by rw [hk, e]⟩)))
    · rcases HAT8.out with h | h
      · exact .inl (.inr (.inl (by rw [← h]; exact hk)))
      · rw [h] at hk
        have h9 := Option.some.inj hk
        simp at h9
        right
        have := HZ3.out
        omega
    · rcases List.mem_append.1 hs with hs | hs
      · exact .inl (.inr (.inr ⟨s, hs, hk⟩))
      · rw [List.mem_singleton.1 hs] at hk
        exact .inr ((HR2.out.lt k hk).1)
end Go.Proofs.YtapfcnfmonknjaaGreatDoor.Bk
