/- Walks of the checker: one, list, name (printed by gen_nk.py). -/
import Derived.Test.YtocpmbpckbjepaaDoorNmText
namespace Go.Proofs.YtocpmbpckbjepaaDoor
open Go.RowKit
set_option linter.unusedVariables false

theorem foldE_le {α : Type} {f : Nat → α → Int × Nat} (hf : ∀ st a, st ≤ 500 → (f st a).1 = 0 → (f st a).2 ≤ 500) : ∀ (l : List α) (st : Nat), st ≤ 500 → (foldE f l st).1 = 0 → (foldE f l st).2 ≤ 500
  | [], st, h, _ => h
  | a :: l, st, h, h0 => by
    unfold foldE at h0 ⊢
    split
    · rename_i h1; rw [if_pos h1] at h0; exact absurd h0 h1
    · rename_i h1; rw [if_neg h1] at h0; exact foldE_le hf l _ (hf st a h (by simpa using h1)) h0
theorem chkList_le {f : Nat → Ty → Int × Nat} (hf : ∀ st a, st ≤ 500 → (f st a).1 = 0 → (f st a).2 ≤ 500) (m : Nat) (l : List Ty) (st : Nat) (h : st ≤ 500) (h0 : (chkList f m l st).1 = 0) : (chkList f m l st).2 ≤ 500 := by
  unfold chkList at h0 ⊢
  split
  · rename_i h1; rw [if_pos h1] at h0; cases h0
  · rename_i h1; rw [if_neg h1] at h0; exact foldE_le hf _ _ h h0
theorem chkPart_le {f : Nat → Ty → Int × Nat} (hf : ∀ st a, st ≤ 500 → (f st a).1 = 0 → (f st a).2 ≤ 500) (st : Nat) (p : Part) (h : st ≤ 500) (h0 : (chkPart f st p).1 = 0) : (chkPart f st p).2 ≤ 500 := by
  unfold chkPart at h0 ⊢
  split
  · rename_i h1; rw [if_pos h1] at h0; exact absurd h0 h1
  · rename_i h1; rw [if_neg h1] at h0; exact chkList_le hf _ _ _ h h0
theorem chkName_le {f : Nat → Ty → Int × Nat} (hf : ∀ st a, st ≤ 500 → (f st a).1 = 0 → (f st a).2 ≤ 500) (l : List Part) (st : Nat) (h : st ≤ 500) (h0 : (chkName f l st).1 = 0) : (chkName f l st).2 ≤ 500 := by
  unfold chkName at h0 ⊢
  split
  · rename_i h1; rw [if_pos h1] at h0; cases h0
  · rename_i h1; rw [if_neg h1] at h0
    split
    · rename_i h2; rw [if_pos h2] at h0; cases h0
    · rename_i h2; rw [if_neg h2] at h0; exact foldE_le (fun st a => chkPart_le hf st a) _ _ h h0
theorem chkTy_le : ∀ (f st : Nat) (t : Ty), st ≤ 500 → (chkTy f st t).1 = 0 → (chkTy f st t).2 ≤ 500
  | 0, _, _, _, h0 => by cases h0
  | f + 1, st, t, h, h0 => by
    unfold chkTy at h0 ⊢
    split
    · rename_i h1; rw [if_pos h1] at h0; cases h0
    · rename_i h1; rw [if_neg h1] at h0
      split
      · rename_i h2; rw [if_pos h2] at h0; cases h0
      · rename_i h2; rw [if_neg h2] at h0
        split
        · rename_i h3; rw [if_pos h3] at h0; cases h0
        · rename_i h3; rw [if_neg h3] at h0
          split
          · rename_i h4; rw [if_pos h4] at h0; exact chkName_le (chkTy_le f) _ _ (by omega) h0
          · rename_i h4; rw [if_neg h4] at h0; exact chkList_le (chkTy_le f) _ _ _ (by omega) h0
theorem chkTy_large {f st : Nat} {t : Ty} (h : 500 < st + 1) : chkTy (f + 1) st t = (4, st + 1) := by rw [chkTy, if_pos h]
theorem chkTy_kind {f st : Nat} {t : Ty} (h : ¬ 500 < st + 1) (hk : t.kind < 1 ∨ 4 < t.kind) : chkTy (f + 1) st t = (10, st + 1) := by rw [chkTy, if_neg h, if_pos hk]
theorem chkTy_form {f st : Nat} {t : Ty} (h : ¬ 500 < st + 1) (hk : ¬ (t.kind < 1 ∨ 4 < t.kind)) (hb : badForm t = true) : chkTy (f + 1) st t = (1, st + 1) := by rw [chkTy, if_neg h, if_neg hk, if_pos hb]
theorem chkTy_name {f st : Nat} {t : Ty} (h : ¬ 500 < st + 1) (hk : t.kind = 1) (hb : badForm t = false) : chkTy (f + 1) st t = chkName (chkTy f) t.name (st + 1) := by rw [chkTy, if_neg h, if_neg (by omega), if_neg (by rw [hb]; decide), if_pos hk]
theorem chkTy_list {f st : Nat} {t : Ty} (h : ¬ 500 < st + 1) (hk : ¬ (t.kind < 1 ∨ 4 < t.kind)) (hk1 : t.kind ≠ 1) (hb : badForm t = false) : chkTy (f + 1) st t = chkList (chkTy f) 21 t.of (st + 1) := by rw [chkTy, if_neg h, if_neg hk, if_neg (by rw [hb]; decide), if_neg hk1]
theorem bump {cb : Nat} {v u : Value} {T : TypeId} {w : World} {o : Obj} (hC : w.heap[cb]? = some (.cells #[v] T (0, 0))) : ButAt cb w ((w.setCell ⟨cb, 0, none⟩ u).alloc o) ∧ ((w.setCell ⟨cb, 0, none⟩ u).alloc o).heap[cb]? = some (.cells #[u] T (0, 0)) := by
  have hlt := lt_of_block hC
  have h1 : (w.setCell ⟨cb, 0, none⟩ u).heap[cb]? = some (.cells #[u] T (0, 0)) := (block_set hC (i := 0) u).trans rfl
  have hs := (ButAt.set (c := cb) w 0 u).be.size
  exact ⟨(ButAt.set _ _ _).alloc (by omega) o, block_below h1 ((Below.refl _ _).alloc (Nat.le_refl _) o)⟩

/-- What the call of 'one' does, f types from the bottom. -/
def cOneOk (f : Nat) : Prop := ∀ (k st : Nat) (t : Ty) (cs : List Value) (cb B : Nat) (d : Int) (w : World), d = 12 - (f : Int) → f ≤ 12 → TyIn w B k t cs → B ≤ cb → st ≤ 500 → w.heap[cb]? = some (.cells #[.int .i64 st] 96 (0, 0)) →
  Calls Tryd.prog 70 #[.pointer (some ⟨cb, 0, none⟩), .agg cs.toArray, .int .i64 d] w fun e w' => e = .returned (.int .i64 (chkTy f st t).1) ∧ ButAt cb w w' ∧ w'.heap[cb]? = some (.cells #[.int .i64 ((chkTy f st t).2 : Nat)] 96 (0, 0))
def cListOk (f : Nat) : Prop := ∀ (k st : Nat) (A : Option Addr) (n cap m : Nat) (l : List Ty) (cb B : Nat) (d : Int) (w : World), d = 12 - (f : Int) → f ≤ 12 → n ≤ cap → cap ≤ maxLen → m ≤ 21 → Tys w B k A n l → B ≤ cb → st ≤ 500 → w.heap[cb]? = some (.cells #[.int .i64 st] 96 (0, 0)) →
  Calls Tryd.prog 45 #[.pointer (some ⟨cb, 0, none⟩), .slice A n cap, .int .i64 m, .int .i64 d] w fun e w' => e = .returned (.int .i64 (chkList (chkTy f) m l st).1) ∧ ButAt cb w w' ∧ w'.heap[cb]? = some (.cells #[.int .i64 ((chkList (chkTy f) m l st).2 : Nat)] 96 (0, 0))
def cNameOk (f : Nat) : Prop := ∀ (k st : Nat) (A : Option Addr) (n cap : Nat) (l : List Part) (cb B : Nat) (d : Int) (w : World), d = 12 - (f : Int) → f ≤ 12 → n ≤ cap → cap ≤ maxLen → Parts w B k A n l → B ≤ cb → st ≤ 500 → w.heap[cb]? = some (.cells #[.int .i64 st] 96 (0, 0)) →
  Calls Tryd.prog 44 #[.pointer (some ⟨cb, 0, none⟩), .slice A n cap, .int .i64 d] w fun e w' => e = .returned (.int .i64 (chkName (chkTy f) l st).1) ∧ ButAt cb w w' ∧ w'.heap[cb]? = some (.cells #[.int .i64 ((chkName (chkTy f) l st).2 : Nat)] 96 (0, 0))

set_option maxRecDepth 100000 in
set_option maxHeartbeats 4000000 in
theorem cList_of {f : Nat} (H : cOneOk f) : cListOk f := by
  intro k st A n cap m l cb B d w hd hf hnc hcm hm hl hB hst hC
  unfold maxLen at hcm
  have HL := hide hl.len
  have HSL := hide hl
  have HC := hide hC
  have HH := hide H
  have HD := hide hd
  have HF := hide hf
  have hcb := lt_of_block hC
  clear hl hC H hd hf
  by_cases hbig : m < n
  · have E := hide (show chkList (chkTy f) m l st = (4, st) by rw [chkList, if_pos (by rw [HL.out]; exact hbig)])
    rw [E.out]
    go_enter Tryd.func45, Tryd.ntmps45
    go_wp2_with (fail)
    go_ret
    exact ⟨rfl, ButAt.refl _ _, HC.out⟩
  · have E := hide (show chkList (chkTy f) m l st = foldE (chkTy f) (l.drop 0) st by rw [chkList, if_neg (by rw [HL.out]; exact hbig)]; rfl)
    have hbig' : decide (m < n) = false := by simp; omega
    obtain ⟨R, hR⟩ : ∃ R, chkList (chkTy f) m l st = R := ⟨_, rfl⟩
    rw [hR]
    have HR := hide (E.out.symm.trans hR)
    clear hR E
    go_enter Tryd.func45, Tryd.ntmps45
    go_wp2_with (fail)
    go_loopw [18] (fun i wr => ∃ j s : Nat, j ≤ n ∧ i = .int .i64 j ∧ foldE (chkTy f) (l.drop j) s = R ∧ s ≤ 500 ∧ ButAt cb w wr ∧ wr.heap[cb]? = some (.cells #[.int .i64 s] 96 (0, 0))) (fun i _ => n - (intOf i).toNat)
    case atStart => exact ⟨0, st, Nat.zero_le _, rfl, HR.out, hst, ButAt.refl _ _, HC.out⟩
    case round =>
      obtain ⟨j, s, hj, rfl, hfo, hs, hbu, hcc⟩ := hrel
      have HFO := hide hfo
      have HBU := hide hbu
      have HCC := hide hcc
      have hcr := lt_of_block hcc
      clear hfo hbu hcc
      by_cases hlt : j < n
      · obtain ⟨b, o, t, cs, rfl, hb, ht, hin, hcs⟩ := (tys_below HSL.out (HBU.out.be.mono hB)).at_ hlt
        have HT := hide ht
        have HIN := hide hin
        cases k with
        | zero => exact hin.elim
        | succ k =>
        obtain ⟨A1, n1, cap1, A2, n2, cap2, rfl, hin2⟩ := hin
        have c0 : wr.cell? ⟨b, o + j * 3, none⟩ = some (.int .i64 t.kind) := by simpa using hcs 0 _ rfl
        have c1 : wr.cell? ⟨b, o + j * 3 + 1, none⟩ = some (.slice A1 n1 cap1) := hcs 1 _ rfl
        have c2 : wr.cell? ⟨b, o + j * 3 + 2, none⟩ = some (.slice A2 n2 cap2) := hcs 2 _ rfl
        have HO := hide (fun ob : Obj => HH.out (k + 1) s t _ cb B d (wr.alloc ob) HD.out HF.out (HIN.out.below ((Below.refl _ _).alloc (by omega) ob)) hB hs (block_below HCC.out ((Below.refl _ _).alloc (Nat.le_refl _) ob)))
        have HBO := hide (fun ob : Obj => HBU.out.alloc (by omega) ob)
        obtain ⟨r, hr⟩ : ∃ r, chkTy f s t = r := ⟨_, rfl⟩
        rw [hr] at HO
        obtain ⟨E, s'⟩ := r
        have HE := hide hr
        clear hcs hin2 ht hr
        by_cases h0 : E = 0
        · subst h0
          have HNX := hide (show foldE (chkTy f) (l.drop (j + 1)) s' = R by rw [← HFO.out, foldE_step HT.out (by rw [HE.out]), HE.out])
          have HLE := hide (show s' ≤ 500 by have := chkTy_le f s t hs (by rw [HE.out]); rw [HE.out] at this; exact this)
          go_wp2_with (go_at_call 70; refine (HO.out _).mono ?_; rintro e w1 ⟨rfl, hb1, hc1⟩; have HB1 := hide ((HBO.out _).trans hb1); have HC1 := hide hc1; clear hb1 hc1)
          go_roundw
          case rel => exact ⟨j + 1, s', by omega, by go_num, HNX.out, HLE.out, HB1.out, HC1.out⟩
          case measure => simp [intOf]; omega
        · have EE := hide (show R = (E, s') by rw [← HFO.out, foldE_stop HT.out (by rw [HE.out]; exact h0), HE.out])
          have h0' : (E == 0) = false := by simpa using h0
          go_wp2_with (go_at_call 70; refine (HO.out _).mono ?_; rintro e w1 ⟨rfl, hb1, hc1⟩; have HB1 := hide ((HBO.out _).trans hb1); have HC1 := hide hc1; clear hb1 hc1)
          go_ret
          exact ⟨by rw [EE.out]; rfl, HB1.out, by rw [EE.out]; exact HC1.out⟩
      · have EE := hide (show R = (0, s) by rw [← HFO.out, foldE_done (by rw [HL.out]; omega)])
        go_wp2_with (fail)
        go_ret
        exact ⟨by rw [EE.out]; rfl, HBU.out, by rw [EE.out]; exact HCC.out⟩

set_option maxRecDepth 100000 in
set_option maxHeartbeats 8000000 in
theorem cName_of {f : Nat} (H : cListOk f) : cNameOk f := by
  intro k st A n cap l cb B d w hd hf hnc hcm hl hB hst hC
  unfold maxLen at hcm
  have HL := hide hl.len
  have HSL := hide hl
  have HC := hide hC
  have HH := hide H
  have HD := hide hd
  have HF := hide hf
  have hcb := lt_of_block hC
  clear hl hC H hd hf
  by_cases h0 : n = 0
  · subst h0
    have E := hide (show chkName (chkTy f) l st = (1, st) by rw [chkName, if_pos HL.out])
    rw [E.out]
    go_enter Tryd.func44, Tryd.ntmps44
    go_wp2_with (fail)
    go_ret
    exact ⟨rfl, ButAt.refl _ _, HC.out⟩
  have h0' : ((n : Int) == 0) = false := by simp; omega
  by_cases hbig : 20 < n
  · have E := hide (show chkName (chkTy f) l st = (4, st) by rw [chkName, if_neg (by rw [HL.out]; exact h0), if_pos (by rw [HL.out]; exact hbig)])
    rw [E.out]
    clear h0
    go_enter Tryd.func44, Tryd.ntmps44
    go_wp2_with (fail)
    go_ret
    exact ⟨rfl, ButAt.refl _ _, HC.out⟩
  · have E := hide (show chkName (chkTy f) l st = foldE (chkPart (chkTy f)) (l.drop 0) st by rw [chkName, if_neg (by rw [HL.out]; exact h0), if_neg (by rw [HL.out]; exact hbig)]; rfl)
    have hbig' : decide (20 < n) = false := by simp; omega
    obtain ⟨R, hR⟩ : ∃ R, chkName (chkTy f) l st = R := ⟨_, rfl⟩
    rw [hR]
    have HR := hide (E.out.symm.trans hR)
    clear hR E h0
    go_enter Tryd.func44, Tryd.ntmps44
    go_wp2_with (fail)
    go_loopw [21] (fun i wr => ∃ j s : Nat, j ≤ n ∧ i = .int .i64 j ∧ foldE (chkPart (chkTy f)) (l.drop j) s = R ∧ s ≤ 500 ∧ ButAt cb w wr ∧ wr.heap[cb]? = some (.cells #[.int .i64 s] 96 (0, 0))) (fun i _ => n - (intOf i).toNat)
    case atStart => exact ⟨0, st, Nat.zero_le _, rfl, HR.out, hst, ButAt.refl _ _, HC.out⟩
    case round =>
      obtain ⟨j, s, hj, rfl, hfo, hs, hbu, hcc⟩ := hrel
      have HFO := hide hfo
      have HBU := hide hbu
      have HCC := hide hcc
      have hcr := lt_of_block hcc
      clear hfo hbu hcc
      by_cases hlt : j < n
      · obtain ⟨b, o, p, cs, rfl, hb, hp, hin, hcs⟩ := (parts_below HSL.out (HBU.out.be.mono hB)).at_ hlt
        have HP := hide hp
        obtain ⟨A1, n1, cap1, rfl, hps, hn1, hc1, hts⟩ := hin
        obtain ⟨tx, ar⟩ := p
        unfold maxLen at hps hc1
        have c0 : wr.cell? ⟨b, o + j * 2, none⟩ = some (.string tx) := by simpa using hcs 0 _ rfl
        have c1 : wr.cell? ⟨b, o + j * 2 + 1, none⟩ = some (.slice A1 n1 cap1) := hcs 1 _ rfl
        have HO := hide (fun ob : Obj => HH.out k s A1 n1 cap1 20 ar cb B d (wr.alloc ob) HD.out HF.out hn1 hc1 (by decide) (tys_below hts ((Below.refl _ _).alloc (by omega) ob)) hB hs (block_below HCC.out ((Below.refl _ _).alloc (Nat.le_refl _) ob)))
        have HBO := hide (fun ob : Obj => HBU.out.alloc (by omega) ob)
        have HTX := hide (fun W => text_any (.pointer (some ⟨cb, 0, none⟩)) tx W hps)
        obtain ⟨r, hr⟩ : ∃ r, chkList (chkTy f) 20 ar s = r := ⟨_, rfl⟩
        rw [hr] at HO
        obtain ⟨E, s'⟩ := r
        have HE := hide hr
        clear hcs hts hp hr
        obtain ⟨e, he⟩ : ∃ e, textE tx = e := ⟨_, rfl⟩
        rw [he] at HTX
        have HTE := hide he
        clear he
        by_cases he0 : e = 0
        · subst he0
          have HCP := hide (show chkPart (chkTy f) s (tx, ar) = (E, s') by rw [chkPart, if_neg (by rw [HTE.out]; decide), HE.out])
          by_cases h0 : E = 0
          · subst h0
            have HNX := hide (show foldE (chkPart (chkTy f)) (l.drop (j + 1)) s' = R by rw [← HFO.out, foldE_step HP.out (by rw [HCP.out]), HCP.out])
            have HLE := hide (show s' ≤ 500 by have := chkList_le (chkTy_le f) 20 ar s hs (by rw [HE.out]); rw [HE.out] at this; exact this)
            go_wp2_with (first | (go_at_call 69; refine (HTX.out _).mono ?_; rintro e w' ⟨rfl, rfl⟩) | (go_at_call 45; refine (HO.out _).mono ?_; rintro e w1 ⟨rfl, hb1, hc1⟩; have HB1 := hide ((HBO.out _).trans hb1); have HC1 := hide hc1; clear hb1 hc1))
            go_roundw
            case rel => exact ⟨j + 1, s', by omega, by go_num, HNX.out, HLE.out, HB1.out, HC1.out⟩
            case measure => simp [intOf]; omega
          · have EE := hide (show R = (E, s') by rw [← HFO.out, foldE_stop HP.out (by rw [HCP.out]; exact h0), HCP.out])
            have h0' : (E == 0) = false := by simpa using h0
            go_wp2_with (first | (go_at_call 69; refine (HTX.out _).mono ?_; rintro e w' ⟨rfl, rfl⟩) | (go_at_call 45; refine (HO.out _).mono ?_; rintro e w1 ⟨rfl, hb1, hc1⟩; have HB1 := hide ((HBO.out _).trans hb1); have HC1 := hide hc1; clear hb1 hc1))
            go_ret
            exact ⟨by rw [EE.out]; rfl, HB1.out, by rw [EE.out]; exact HC1.out⟩
        · have EE := hide (show R = (e, s) by rw [← HFO.out, foldE_stop HP.out (by rw [chkPart, if_pos (by rw [HTE.out]; exact he0), HTE.out]; exact he0), chkPart, if_pos (by rw [HTE.out]; exact he0), HTE.out])
          have he0' : (e == 0) = false := by simpa using he0
          have HBX := hide (fun ob : Obj => And.intro (HBO.out ob) (block_below HCC.out ((Below.refl _ _).alloc (Nat.le_refl _) ob)))
          go_wp2_with (go_at_call 69; refine (HTX.out _).mono ?_; rintro e w' ⟨rfl, rfl⟩)
          go_ret
          exact ⟨by rw [EE.out]; rfl, (HBX.out _).1, by rw [EE.out]; exact (HBX.out _).2⟩
      · have EE := hide (show R = (0, s) by rw [← HFO.out, foldE_done (by rw [HL.out]; omega)])
        go_wp2_with (fail)
        go_ret
        exact ⟨by rw [EE.out]; rfl, HBU.out, by rw [EE.out]; exact HCC.out⟩

set_option maxRecDepth 100000 in
set_option maxHeartbeats 1000000 in
theorem cOne_zero : cOneOk 0 := by
  intro k st t cs cb B d w hd hf hin hB hst hC
  obtain rfl : d = 12 := by omega
  cases k with
  | zero => exact hin.elim
  | succ k =>
  obtain ⟨A1, n1, cap1, A2, n2, cap2, rfl, hin2⟩ := hin
  have hcb := lt_of_block hC
  have HC := hide (fun ob : Obj => block_below hC ((Below.refl _ _).alloc (Nat.le_refl _) ob))
  have HB0 := hide (fun ob : Obj => (ButAt.refl cb w).alloc (by omega) ob)
  have E := hide (show chkTy 0 st t = (13, st) from rfl)
  rw [E.out]
  clear hC hin2 E hd
  go_enter Tryd.func70, Tryd.ntmps70
  go_wp2_with (fail)
  go_ret
  exact ⟨rfl, HB0.out _, HC.out _⟩

set_option maxRecDepth 100000 in
set_option maxHeartbeats 16000000 in
theorem cOne_succ {f : Nat} (HLI : cListOk f) (HNA : cNameOk f) : cOneOk (f + 1) := by
  intro k st t cs cb B d w hd hf hin hB hst hC
  have hd12 : d < 12 := by omega
  have hd12' : decide (12 ≤ d) = false := by simp; omega
  have hd0 : 0 ≤ d := by omega
  obtain ⟨d1, hd1⟩ : ∃ d1, d + 1 = d1 := ⟨_, rfl⟩
  have HD1 := hide (show d1 = 12 - (f : Int) by omega)
  clear hd
  cases k with
  | zero => exact hin.elim
  | succ k =>
  obtain ⟨A1, n1, cap1, A2, n2, cap2, rfl, hn1, hc1, hn2, hc2, hna, hof⟩ := hin
  have HLN := hide hna.len
  have HLO := hide hof.len
  have HNA2 := hide hna
  have HOF := hide hof
  have hcb := lt_of_block hC
  have hne : w.heap.size ≠ cb := by omega
  have hne' : cb ≠ w.heap.size := by omega
  have z0 : w.cell? ⟨cb, 0, none⟩ = some (.int .i64 st) := (block_cell hC 0).trans rfl
  have z1 : w.frozen? ⟨cb, 0, none⟩ = false := block_free hC 0
  obtain ⟨s1, hs1⟩ : ∃ s1 : Nat, s1 = st + 1 := ⟨_, rfl⟩
  have es1 : (st : Int) + 1 = (s1 : Int) := by omega
  have HBU := hide (fun ob : Obj => bump (u := .int .i64 s1) (o := ob) hC)
  have HS1 := hide hs1
  have HK := hide (fun ob : Obj => HNA (k) s1 A1 n1 cap1 t.name cb B d1 _ HD1.out (by omega) hn1 hc1 (parts_below HNA2.out ((HBU.out ob).1.be.mono hB)) hB)
  have HI := hide (fun ob : Obj => HLI (k) s1 A2 n2 cap2 21 t.of cb B d1 _ HD1.out (by omega) hn2 hc2 (by decide) (tys_below HOF.out ((HBU.out ob).1.be.mono hB)) hB)
  unfold maxLen at hc1 hc2
  obtain ⟨K, hKd⟩ : ∃ K, t.kind = K := ⟨_, rfl⟩
  rw [hKd]
  have HKD := hide hKd
  clear hna hof hKd hs1 HLI HNA hC hf
  by_cases hbig : 500 < s1
  · have E := hide (show chkTy (f + 1) st t = (4, s1) by rw [HS1.out]; exact chkTy_large (by have := HS1.out; omega))
    rw [E.out]
    go_enter Tryd.func70, Tryd.ntmps70
    go_wp2_with (fail)
    go_ret
    exact ⟨rfl, (HBU.out _).1, (HBU.out _).2⟩
  have hbig' : decide (500 < s1) = false := by simp; omega
  have hle : s1 ≤ 500 := by omega
  have HSM := hide (show ¬ 500 < st + 1 by have := HS1.out; omega)
  by_cases hk1 : K < 1
  · have E := hide (show chkTy (f + 1) st t = (10, s1) by rw [HS1.out]; exact chkTy_kind HSM.out (by rw [HKD.out]; exact .inl hk1))
    rw [E.out]
    have kf : K ≠ 2 ∧ K ≠ 1 := by omega
    go_enter Tryd.func70, Tryd.ntmps70
    go_wp2_with (fail)
    go_ret
    exact ⟨rfl, (HBU.out _).1, (HBU.out _).2⟩
  by_cases hk4 : 4 < K
  · have E := hide (show chkTy (f + 1) st t = (10, s1) by rw [HS1.out]; exact chkTy_kind HSM.out (by rw [HKD.out]; exact .inr hk4))
    rw [E.out]
    have hk1' : decide (K < 1) = false := by simp; omega
    go_enter Tryd.func70, Tryd.ntmps70
    go_wp2_with (fail)
    go_ret
    exact ⟨rfl, (HBU.out _).1, (HBU.out _).2⟩
  have HRG := hide (show ¬ (t.kind < 1 ∨ 4 < t.kind) by rw [HKD.out]; omega)
  rcases (show K = 1 ∨ K = 2 ∨ K = 3 ∨ K = 4 by omega) with rfl | rfl | rfl | rfl
  · by_cases ho : n2 = 0
    · subst ho
      have E := hide (show chkTy (f + 1) st t = chkName (chkTy f) t.name s1 by rw [HS1.out]; exact chkTy_name HSM.out HKD.out (by simp [badForm, HKD.out, HLN.out, HLO.out]))
      rw [E.out]
      obtain ⟨R, hR⟩ : ∃ R, chkName (chkTy f) t.name s1 = R := ⟨_, rfl⟩
      rw [hR] at HK ⊢
      obtain ⟨RE, RS⟩ := R
      clear hR E
      go_enter Tryd.func70, Tryd.ntmps70
      go_wp2_with ((go_at_call 44; refine (HK.out _ hle (HBU.out _).2).mono ?_; rintro e w1 ⟨rfl, hb1, hc1⟩; have HB1 := hide ((HBU.out _).1.trans hb1); have HC1 := hide hc1; clear hb1 hc1))
      go_ret
      exact ⟨rfl, HB1.out, HC1.out⟩
    · have hop : 0 < n2 := by omega
      have hop1 : (0 : Int) < (n2 : Int) := by omega
      have E := hide (show chkTy (f + 1) st t = (1, s1) by rw [HS1.out]; exact chkTy_form HSM.out HRG.out (by simp [badForm, HKD.out, HLN.out, HLO.out]; omega))
      rw [E.out]
      go_enter Tryd.func70, Tryd.ntmps70
      go_wp2_with (fail)
      go_ret
      exact ⟨rfl, (HBU.out _).1, (HBU.out _).2⟩
  · by_cases hnm : n1 = 0
    · subst hnm
      by_cases ho : n2 = 1
      · subst ho
        have E := hide (show chkTy (f + 1) st t = chkList (chkTy f) 21 t.of s1 by rw [HS1.out]; exact chkTy_list HSM.out HRG.out (by rw [HKD.out]; decide) (by simp [badForm, HKD.out, HLN.out, HLO.out]))
        rw [E.out]
        obtain ⟨R, hR⟩ : ∃ R, chkList (chkTy f) 21 t.of s1 = R := ⟨_, rfl⟩
        rw [hR] at HI ⊢
        obtain ⟨RE, RS⟩ := R
        clear hR E
        go_enter Tryd.func70, Tryd.ntmps70
        go_wp2_with ((go_at_call 45; refine (HI.out _ hle (HBU.out _).2).mono ?_; rintro e w1 ⟨rfl, hb1, hc1⟩; have HB1 := hide ((HBU.out _).1.trans hb1); have HC1 := hide hc1; clear hb1 hc1))
        go_ret
        exact ⟨rfl, HB1.out, HC1.out⟩
      · have ho1 : ¬ (n2 : Int) = 1 := by omega
        have ho2 : ((n2 : Int) == 1) = false := by simp; omega
        have E := hide (show chkTy (f + 1) st t = (1, s1) by rw [HS1.out]; exact chkTy_form HSM.out HRG.out (by simp [badForm, HKD.out, HLN.out, HLO.out]; omega))
        rw [E.out]
        clear ho
        go_enter Tryd.func70, Tryd.ntmps70
        go_wp2_with (fail)
        go_ret
        exact ⟨rfl, (HBU.out _).1, (HBU.out _).2⟩
    · have hnp : 0 < n1 := by omega
      have hnp1 : (0 : Int) < (n1 : Int) := by omega
      have E := hide (show chkTy (f + 1) st t = (1, s1) by rw [HS1.out]; exact chkTy_form HSM.out HRG.out (by simp [badForm, HKD.out, HLN.out, HLO.out]; omega))
      rw [E.out]
      go_enter Tryd.func70, Tryd.ntmps70
      go_wp2_with (fail)
      go_ret
      exact ⟨rfl, (HBU.out _).1, (HBU.out _).2⟩
  · by_cases hnm : n1 = 0
    · subst hnm
      by_cases ho : n2 = 1
      · subst ho
        have E := hide (show chkTy (f + 1) st t = chkList (chkTy f) 21 t.of s1 by rw [HS1.out]; exact chkTy_list HSM.out HRG.out (by rw [HKD.out]; decide) (by simp [badForm, HKD.out, HLN.out, HLO.out]))
        rw [E.out]
        obtain ⟨R, hR⟩ : ∃ R, chkList (chkTy f) 21 t.of s1 = R := ⟨_, rfl⟩
        rw [hR] at HI ⊢
        obtain ⟨RE, RS⟩ := R
        clear hR E
        go_enter Tryd.func70, Tryd.ntmps70
        go_wp2_with ((go_at_call 45; refine (HI.out _ hle (HBU.out _).2).mono ?_; rintro e w1 ⟨rfl, hb1, hc1⟩; have HB1 := hide ((HBU.out _).1.trans hb1); have HC1 := hide hc1; clear hb1 hc1))
        go_ret
        exact ⟨rfl, HB1.out, HC1.out⟩
      · have ho1 : ¬ (n2 : Int) = 1 := by omega
        have ho2 : ((n2 : Int) == 1) = false := by simp; omega
        have E := hide (show chkTy (f + 1) st t = (1, s1) by rw [HS1.out]; exact chkTy_form HSM.out HRG.out (by simp [badForm, HKD.out, HLN.out, HLO.out]; omega))
        rw [E.out]
        clear ho
        go_enter Tryd.func70, Tryd.ntmps70
        go_wp2_with (fail)
        go_ret
        exact ⟨rfl, (HBU.out _).1, (HBU.out _).2⟩
    · have hnp : 0 < n1 := by omega
      have hnp1 : (0 : Int) < (n1 : Int) := by omega
      have E := hide (show chkTy (f + 1) st t = (1, s1) by rw [HS1.out]; exact chkTy_form HSM.out HRG.out (by simp [badForm, HKD.out, HLN.out, HLO.out]; omega))
      rw [E.out]
      go_enter Tryd.func70, Tryd.ntmps70
      go_wp2_with (fail)
      go_ret
      exact ⟨rfl, (HBU.out _).1, (HBU.out _).2⟩
  · by_cases hnm : n1 = 0
    · subst hnm
      by_cases ho : n2 = 0
      · subst ho
        have E := hide (show chkTy (f + 1) st t = (1, s1) by rw [HS1.out]; exact chkTy_form HSM.out HRG.out (by simp [badForm, HKD.out, HLN.out, HLO.out]))
        rw [E.out]
        go_enter Tryd.func70, Tryd.ntmps70
        go_wp2_with (fail)
        go_ret
        exact ⟨rfl, (HBU.out _).1, (HBU.out _).2⟩
      · have ho1 : ¬ (n2 : Int) = 0 := by omega
        have ho2 : ((n2 : Int) == 0) = false := by simp; omega
        have E := hide (show chkTy (f + 1) st t = chkList (chkTy f) 21 t.of s1 by rw [HS1.out]; exact chkTy_list HSM.out HRG.out (by rw [HKD.out]; decide) (by simp [badForm, HKD.out, HLN.out, HLO.out]; omega))
        rw [E.out]
        obtain ⟨R, hR⟩ : ∃ R, chkList (chkTy f) 21 t.of s1 = R := ⟨_, rfl⟩
        rw [hR] at HI ⊢
        obtain ⟨RE, RS⟩ := R
        clear hR E
        clear ho
        go_enter Tryd.func70, Tryd.ntmps70
        go_wp2_with ((go_at_call 45; refine (HI.out _ hle (HBU.out _).2).mono ?_; rintro e w1 ⟨rfl, hb1, hc1⟩; have HB1 := hide ((HBU.out _).1.trans hb1); have HC1 := hide hc1; clear hb1 hc1))
        go_ret
        exact ⟨rfl, HB1.out, HC1.out⟩
    · have hnp : 0 < n1 := by omega
      have hnp1 : (0 : Int) < (n1 : Int) := by omega
      have E := hide (show chkTy (f + 1) st t = (1, s1) by rw [HS1.out]; exact chkTy_form HSM.out HRG.out (by simp [badForm, HKD.out, HLN.out, HLO.out]; omega))
      rw [E.out]
      go_enter Tryd.func70, Tryd.ntmps70
      go_wp2_with (fail)
      go_ret
      exact ⟨rfl, (HBU.out _).1, (HBU.out _).2⟩

theorem cAll : ∀ f, cOneOk f
  | 0 => cOne_zero
  | f + 1 => cOne_succ (cList_of (cAll f)) (cName_of (cList_of (cAll f)))
theorem cList_any (f : Nat) : cListOk f := cList_of (cAll f)
theorem cName_any (f : Nat) : cNameOk f := cName_of (cList_any f)
end Go.Proofs.YtocpmbpckbjepaaDoor
