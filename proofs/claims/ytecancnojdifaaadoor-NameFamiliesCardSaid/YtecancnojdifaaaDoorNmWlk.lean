/- Walks of the reference's walker: one, list, parts (printed by gen_nk.py). -/
import Derived.Test.YtecancnojdifaaaDoorNmChk
namespace Go.Proofs.YtecancnojdifaaaDoor
open Go.RowKit
set_option linter.unusedVariables false

theorem in_any (n lo hi : Int) (b : Bool) (w : World) (hb : (decide (lo ≤ n) && decide (n ≤ hi)) = b) :
    Calls Tryd.prog 114 #[.int .i64 n, .int .i64 lo, .int .i64 hi] w fun e w' => e = .returned (.bool b) ∧ w' = w := by
  have HB := hide hb
  by_cases h1 : lo ≤ n
  · by_cases h2 : n ≤ hi
    · have E := hide (show b = true by rw [← hb]; simp [h1, h2])
      clear hb
      go_enter Tryd.func114, Tryd.ntmps114
      go_wp2_with (fail)
      go_ret
      exact ⟨by rw [E.out]; rfl, rfl⟩
    · have E := hide (show b = false by rw [← hb]; simp [h2])
      have h2' : decide (n ≤ hi) = false := by simpa using h2
      clear hb
      go_enter Tryd.func114, Tryd.ntmps114
      go_wp2_with (fail)
      go_ret
      exact ⟨by rw [E.out]; rfl, rfl⟩
  · have E := hide (show b = false by rw [← hb]; simp [h1])
    have h1' : decide (lo ≤ n) = false := by simpa using h1
    have h1'' : n < lo := by omega
    clear hb
    go_enter Tryd.func114, Tryd.ntmps114
    go_wp2_with (fail)
    go_ret
    exact ⟨by rw [E.out]; rfl, rfl⟩

/-- What the call of 'one' does, f types from the bottom. -/
def wOneOk (f : Nat) : Prop := ∀ (k st : Nat) (t : Ty) (cs : List Value) (cb B : Nat) (d : Int) (w : World), d = 12 - (f : Int) → f ≤ 12 → TyIn w B k t cs → B ≤ cb → st ≤ 500 → w.heap[cb]? = some (.cells #[.int .i64 st] 117 (0, 0)) →
  Calls Tryd.prog 103 #[.pointer (some ⟨cb, 0, none⟩), .agg cs.toArray, .int .i64 d] w fun e w' => e = .returned (.int .i64 (chkTy f st t).1) ∧ ButAt cb w w' ∧ w'.heap[cb]? = some (.cells #[.int .i64 ((chkTy f st t).2 : Nat)] 117 (0, 0))
def wListOk (f : Nat) : Prop := ∀ (k st : Nat) (A : Option Addr) (n cap m : Nat) (l : List Ty) (cb B : Nat) (d : Int) (w : World), d = 12 - (f : Int) → f ≤ 12 → n ≤ cap → cap ≤ maxLen → m ≤ 21 → Tys w B k A n l → B ≤ cb → st ≤ 500 → w.heap[cb]? = some (.cells #[.int .i64 st] 117 (0, 0)) →
  Calls Tryd.prog 74 #[.pointer (some ⟨cb, 0, none⟩), .slice A n cap, .int .i64 m, .int .i64 d] w fun e w' => e = .returned (.int .i64 (chkList (chkTy f) m l st).1) ∧ ButAt cb w w' ∧ w'.heap[cb]? = some (.cells #[.int .i64 ((chkList (chkTy f) m l st).2 : Nat)] 117 (0, 0))
def wNameOk (f : Nat) : Prop := ∀ (k st : Nat) (A : Option Addr) (n cap : Nat) (l : List Part) (cb B : Nat) (d : Int) (w : World), d = 12 - (f : Int) → f ≤ 12 → n ≤ cap → cap ≤ maxLen → Parts w B k A n l → B ≤ cb → st ≤ 500 → w.heap[cb]? = some (.cells #[.int .i64 st] 117 (0, 0)) →
  Calls Tryd.prog 73 #[.pointer (some ⟨cb, 0, none⟩), .slice A n cap, .int .i64 d] w fun e w' => e = .returned (.int .i64 (chkName (chkTy f) l st).1) ∧ ButAt cb w w' ∧ w'.heap[cb]? = some (.cells #[.int .i64 ((chkName (chkTy f) l st).2 : Nat)] 117 (0, 0))

set_option maxRecDepth 100000 in
set_option maxHeartbeats 4000000 in
theorem wList_of {f : Nat} (H : wOneOk f) : wListOk f := by
  intro k st A n cap m l cb B d w hd hf hnc hcm hm hl hB hst hC
  unfold maxLen at hcm
  have HL := hide hl.len
  have HSL := hide hl
  have HC := hide hC
  have HH := hide H
  have HD := hide hd
  have HF := hide hf
  have hcb := lt_of_block hC
  clear hl hC H hd hf
  by_cases hbig : m < n
  · have E := hide (show chkList (chkTy f) m l st = (4, st) by rw [chkList, if_pos (by rw [HL.out]; exact hbig)])
    rw [E.out]
    go_enter Tryd.func74, Tryd.ntmps74
    go_wp2_with (fail)
    go_ret
    exact ⟨rfl, ButAt.refl _ _, HC.out⟩
  · have E := hide (show chkList (chkTy f) m l st = foldE (chkTy f) (l.drop 0) st by rw [chkList, if_neg (by rw [HL.out]; exact hbig)]; rfl)
    have hbig' : decide (m < n) = false := by simp; omega
    obtain ⟨R, hR⟩ : ∃ R, chkList (chkTy f) m l st = R := ⟨_, rfl⟩
    rw [hR]
    have HR := hide (E.out.symm.trans hR)
    clear hR E
    go_enter Tryd.func74, Tryd.ntmps74
    go_wp2_with (fail)
    go_loopw [18] (fun i wr => ∃ j s : Nat, j ≤ n ∧ i = .int .i64 j ∧ foldE (chkTy f) (l.drop j) s = R ∧ s ≤ 500 ∧ ButAt cb w wr ∧ wr.heap[cb]? = some (.cells #[.int .i64 s] 117 (0, 0))) (fun i _ => n - (intOf i).toNat)
    case atStart => exact ⟨0, st, Nat.zero_le _, rfl, HR.out, hst, ButAt.refl _ _, HC.out⟩
    case round =>
      obtain ⟨j, s, hj, rfl, hfo, hs, hbu, hcc⟩ := hrel
      have HFO := hide hfo
      have HBU := hide hbu
      have HCC := hide hcc
      have hcr := lt_of_block hcc
      clear hfo hbu hcc
      by_cases hlt : j < n
      · obtain ⟨b, o, t, cs, rfl, hb, ht, hin, hcs⟩ := (tys_below HSL.out (HBU.out.be.mono hB)).at_ hlt
        have HT := hide ht
        have HIN := hide hin
        cases k with
        | zero => exact hin.elim
        | succ k =>
        obtain ⟨A1, n1, cap1, A2, n2, cap2, rfl, hin2⟩ := hin
        have c0 : wr.cell? ⟨b, o + j * 3, none⟩ = some (.int .i64 t.kind) := by simpa using hcs 0 _ rfl
        have c1 : wr.cell? ⟨b, o + j * 3 + 1, none⟩ = some (.slice A1 n1 cap1) := hcs 1 _ rfl
        have c2 : wr.cell? ⟨b, o + j * 3 + 2, none⟩ = some (.slice A2 n2 cap2) := hcs 2 _ rfl
        have HO := hide (fun ob : Obj => HH.out (k + 1) s t _ cb B d (wr.alloc ob) HD.out HF.out (HIN.out.below ((Below.refl _ _).alloc (by omega) ob)) hB hs (block_below HCC.out ((Below.refl _ _).alloc (Nat.le_refl _) ob)))
        have HBO := hide (fun ob : Obj => HBU.out.alloc (by omega) ob)
        obtain ⟨r, hr⟩ : ∃ r, chkTy f s t = r := ⟨_, rfl⟩
        rw [hr] at HO
        obtain ⟨E, s'⟩ := r
        have HE := hide hr
        clear hcs hin2 ht hr
        by_cases h0 : E = 0
        · subst h0
          have HNX := hide (show foldE (chkTy f) (l.drop (j + 1)) s' = R by rw [← HFO.out, foldE_step HT.out (by rw [HE.out]), HE.out])
          have HLE := hide (show s' ≤ 500 by have := chkTy_le f s t hs (by rw [HE.out]); rw [HE.out] at this; exact this)
          go_wp2_with (go_at_call 103; refine (HO.out _).mono ?_; rintro e w1 ⟨rfl, hb1, hc1⟩; have HB1 := hide ((HBO.out _).trans hb1); have HC1 := hide hc1; clear hb1 hc1)
          go_roundw
          case rel => exact ⟨j + 1, s', by omega, by go_num, HNX.out, HLE.out, HB1.out, HC1.out⟩
          case measure => simp [intOf]; omega
        · have EE := hide (show R = (E, s') by rw [← HFO.out, foldE_stop HT.out (by rw [HE.out]; exact h0), HE.out])
          have h0' : (E == 0) = false := by simpa using h0
          go_wp2_with (go_at_call 103; refine (HO.out _).mono ?_; rintro e w1 ⟨rfl, hb1, hc1⟩; have HB1 := hide ((HBO.out _).trans hb1); have HC1 := hide hc1; clear hb1 hc1)
          go_ret
          exact ⟨by rw [EE.out]; rfl, HB1.out, by rw [EE.out]; exact HC1.out⟩
      · have EE := hide (show R = (0, s) by rw [← HFO.out, foldE_done (by rw [HL.out]; omega)])
        go_wp2_with (fail)
        go_ret
        exact ⟨by rw [EE.out]; rfl, HBU.out, by rw [EE.out]; exact HCC.out⟩

theorem lett_not_dig {c : UInt8} (h : lettB c = true) : digB c = false := by
  simp only [lettB, digB, Bool.or_eq_true, decide_eq_true_eq, decide_eq_false_iff_not] at h ⊢
  omega

set_option maxRecDepth 100000 in
set_option maxHeartbeats 8000000 in
theorem wName_of {f : Nat} (H : wListOk f) : wNameOk f := by
  intro k st A n cap l cb B d w hd hf hnc hcm hl hB hst hC
  unfold maxLen at hcm
  have HL := hide hl.len
  have HSL := hide hl
  have HC := hide hC
  have HH := hide H
  have HD := hide hd
  have HF := hide hf
  have hcb := lt_of_block hC
  clear hl hC H hd hf
  by_cases h0 : n = 0
  · subst h0
    have E := hide (show chkName (chkTy f) l st = (1, st) by rw [chkName, if_pos HL.out])
    rw [E.out]
    go_enter Tryd.func73, Tryd.ntmps73
    go_wp2_with (fail)
    go_ret
    exact ⟨rfl, ButAt.refl _ _, HC.out⟩
  have h0' : ((n : Int) == 0) = false := by simp; omega
  by_cases hbig : 20 < n
  · have E := hide (show chkName (chkTy f) l st = (4, st) by rw [chkName, if_neg (by rw [HL.out]; exact h0), if_pos (by rw [HL.out]; exact hbig)])
    rw [E.out]
    clear h0
    go_enter Tryd.func73, Tryd.ntmps73
    go_wp2_with (fail)
    go_ret
    exact ⟨rfl, ButAt.refl _ _, HC.out⟩
  · have E := hide (show chkName (chkTy f) l st = foldE (chkPart (chkTy f)) (l.drop 0) st by rw [chkName, if_neg (by rw [HL.out]; exact h0), if_neg (by rw [HL.out]; exact hbig)]; rfl)
    have hbig' : decide (20 < n) = false := by simp; omega
    obtain ⟨R, hR⟩ : ∃ R, chkName (chkTy f) l st = R := ⟨_, rfl⟩
    rw [hR]
    have HR := hide (E.out.symm.trans hR)
    clear hR E h0
    go_enter Tryd.func73, Tryd.ntmps73
    go_wp2_with (fail)
    go_loopw [19] (fun i wr => ∃ j s : Nat, j ≤ n ∧ i = .int .i64 j ∧ foldE (chkPart (chkTy f)) (l.drop j) s = R ∧ s ≤ 500 ∧ ButAt cb w wr ∧ wr.heap[cb]? = some (.cells #[.int .i64 s] 117 (0, 0))) (fun i _ => n - (intOf i).toNat)
    case atStart => exact ⟨0, st, Nat.zero_le _, rfl, HR.out, hst, ButAt.refl _ _, HC.out⟩
    case round =>
      obtain ⟨j, s, hj, rfl, hfo, hs, hbu, hcc⟩ := hrel
      have HFO := hide hfo
      have HBU := hide hbu
      have HCC := hide hcc
      have hcr := lt_of_block hcc
      clear hfo hbu hcc
      by_cases hlt : j < n
      · obtain ⟨b, o, p, cs, rfl, hb, hp, hin, hcs⟩ := (parts_below HSL.out (HBU.out.be.mono hB)).at_ hlt
        have HP := hide hp
        obtain ⟨A1, n1, cap1, rfl, hps, hn1, hc1, hts⟩ := hin
        obtain ⟨tx, ar⟩ := p
        unfold maxLen at hps hc1
        have c0 : wr.cell? ⟨b, o + j * 2, none⟩ = some (.string tx) := by simpa using hcs 0 _ rfl
        have c1 : wr.cell? ⟨b, o + j * 2 + 1, none⟩ = some (.slice A1 n1 cap1) := hcs 1 _ rfl
        have HO := hide (fun ob : Obj => HH.out k s A1 n1 cap1 20 ar cb B d (wr.alloc ob) HD.out HF.out hn1 hc1 (by decide) (tys_below hts ((Below.refl _ _).alloc (by omega) ob)) hB hs (block_below HCC.out ((Below.refl _ _).alloc (Nat.le_refl _) ob)))
        have HBO := hide (fun ob : Obj => HBU.out.alloc (by omega) ob)
        obtain ⟨r, hr⟩ : ∃ r, chkList (chkTy f) 20 ar s = r := ⟨_, rfl⟩
        rw [hr] at HO
        obtain ⟨E, s'⟩ := r
        have HE := hide hr
        clear hcs hts hp hr
        by_cases hz : tx.size = 0
        · obtain rfl := str_empty hz
          have EE := hide (show R = (1, s) by rw [← HFO.out, foldE_stop HP.out (by rw [chkPart, if_pos (by rw [textE_0 hz]; decide), textE_0 hz]; show (1 : Int) ≠ 0; decide), chkPart, if_pos (by rw [textE_0 hz]; decide), textE_0 hz])
          have HBX := hide (fun ob : Obj => And.intro (HBO.out ob) (block_below HCC.out ((Below.refl _ _).alloc (Nat.le_refl _) ob)))
          go_wp2_with (fail)
          go_ret
          exact ⟨by rw [EE.out]; rfl, (HBX.out _).1, by rw [EE.out]; exact (HBX.out _).2⟩
        obtain ⟨hf1, hf2⟩ := str_full hz
        by_cases h6 : 60 < tx.size
        · have EE := hide (show R = (4, s) by rw [← HFO.out, foldE_stop HP.out (by rw [chkPart, if_pos (by rw [textE_60 h6]; decide), textE_60 h6]; show (4 : Int) ≠ 0; decide), chkPart, if_pos (by rw [textE_60 h6]; decide), textE_60 h6])
          have HBX := hide (fun ob : Obj => And.intro (HBO.out ob) (block_below HCC.out ((Below.refl _ _).alloc (Nat.le_refl _) ob)))
          clear hz
          go_wp2_with (fail)
          go_ret
          exact ⟨by rw [EE.out]; rfl, (HBX.out _).1, by rw [EE.out]; exact (HBX.out _).2⟩
        have h6' : decide (60 < tx.size) = false := by simp; omega
        have HZ := hide hz
        have hpos : 0 < tx.size := by omega
        have HXB := hide (heap_alloc_new wr (.cells #[.string tx, .slice A1 n1 cap1] 76))
        clear hz
        go_wp2_with (fail)
        obtain ⟨wo, rfl⟩ : ∃ wo : World, wo = wr := ⟨_, rfl⟩
        have hbx0 : (wo.alloc (.cells #[.string tx, .slice A1 n1 cap1] 76)).cell? ⟨wo.heap.size, 0, none⟩ = some (.string tx) := (block_cell HXB.out 0).trans rfl
        have hbx1 : (wo.alloc (.cells #[.string tx, .slice A1 n1 cap1] 76)).cell? ⟨wo.heap.size, 1, none⟩ = some (.slice A1 n1 cap1) := (block_cell HXB.out 1).trans rfl
        go_loopw [33] (fun i wr => ∃ q : Nat, wr = wo.alloc (.cells #[.string tx, .slice A1 n1 cap1] 76) ∧ q ≤ tx.size ∧ i = .int .i64 q ∧ ∀ (z : Nat) c, z < q → tx.data.toList[z]? = some c → (if z = 0 then lettB c else (lettB c || digB c)) = true) (fun i _ => tx.size - (intOf i).toNat)
        case atStart => exact ⟨0, rfl, Nat.zero_le _, rfl, fun z c h => by omega⟩
        case round =>
          obtain ⟨q, rfl, hq, rfl, hall⟩ := hrel
          have HALL := hide hall
          clear hall
          by_cases hlq : q < tx.size
          · have HG := hide (str_get tx q hlq)
            by_cases hq0 : q = 0
            · subst hq0
              have L := hide (fun W => letter_first tx[0] W)
              cases hl : lettB tx[0]
              · have EE := hide (show R = (9, s) by
                  have hte : textE tx = 9 := by
                    cases hdg : digB tx[0]
                    · exact textE_bad HZ.out h6 HG.out (by rw [hl, hdg]; rfl)
                    · exact textE_dig HZ.out h6 ((headDig_at hlq).trans hdg)
                  rw [← HFO.out, foldE_stop HP.out (by rw [chkPart, if_pos (by rw [hte]; decide), hte]; show (9 : Int) ≠ 0; decide), chkPart, if_pos (by rw [hte]; decide), hte])
                have HBX := hide (fun ob : Obj => And.intro (HBO.out ob) (block_below HCC.out ((Below.refl _ _).alloc (Nat.le_refl _) ob)))
                rw [hl] at L
                clear hl
                go_wp2_with (go_at_call 69; refine (L.out _).mono ?_; rintro e w' ⟨rfl, rfl⟩)
                go_ret
                exact ⟨by rw [EE.out]; rfl, (HBX.out _).1, by rw [EE.out]; exact (HBX.out _).2⟩
              · rw [hl] at L
                have HK := hide hl
                clear hl
                go_wp2_with (go_at_call 69; refine (L.out _).mono ?_; rintro e w' ⟨rfl, rfl⟩)
                go_roundw
                case rel => exact ⟨1, by first | rfl | trivial, by omega, by go_num, fun z c hz hc => by (obtain rfl : z = 0 := (by omega)); rw [HG.out] at hc; cases hc; rw [if_pos rfl]; exact HK.out⟩
                case measure => simp [intOf]; omega
            · have hq1 : ((q : Int) == 0) = false := by simp; omega
              have L := hide (fun W => letter_next tx[q] W)
              obtain ⟨v, hv⟩ : ∃ v, (lettB tx[q] || digB tx[q]) = v := ⟨_, rfl⟩
              rw [hv] at L
              cases v
              · have EE := hide (show R = (9, s) by
                  have hte : textE tx = 9 := textE_bad HZ.out h6 HG.out hv
                  rw [← HFO.out, foldE_stop HP.out (by rw [chkPart, if_pos (by rw [hte]; decide), hte]; show (9 : Int) ≠ 0; decide), chkPart, if_pos (by rw [hte]; decide), hte])
                have HBX := hide (fun ob : Obj => And.intro (HBO.out ob) (block_below HCC.out ((Below.refl _ _).alloc (Nat.le_refl _) ob)))
                clear hv
                go_wp2_with (go_at_call 69; refine (L.out _).mono ?_; rintro e w' ⟨rfl, rfl⟩)
                go_ret
                exact ⟨by rw [EE.out]; rfl, (HBX.out _).1, by rw [EE.out]; exact (HBX.out _).2⟩
              · have HK := hide (show (if q = 0 then lettB tx[q] else (lettB tx[q] || digB tx[q])) = true by rw [if_neg hq0, hv])
                clear hv hq0
                go_wp2_with (go_at_call 69; refine (L.out _).mono ?_; rintro e w' ⟨rfl, rfl⟩)
                go_roundw
                case rel => exact ⟨q + 1, by first | rfl | trivial, by omega, by go_num, fun z c hz hc => by (by_cases e : z = q); (subst e; rw [HG.out] at hc; cases hc; exact HK.out); exact HALL.out z c (by omega) hc⟩
                case measure => simp [intOf]; omega
          · obtain rfl : q = tx.size := by omega
            have hte : textE tx = 0 := textE_ok HZ.out h6 (by
              rw [headDig_at hpos]
              have h := HALL.out 0 _ hpos (str_get tx 0 hpos)
              rw [if_pos rfl] at h
              exact lett_not_dig h) (fun z c hz hc => by
              have h := HALL.out z c hz hc
              split at h
              · rw [h]; rfl
              · exact h)
            have HTE := hide hte
            have HCP := hide (show chkPart (chkTy f) s (tx, ar) = (E, s') by rw [chkPart, if_neg (by rw [HTE.out]; decide), HE.out])
            clear hte
            by_cases h0 : E = 0
            · subst h0
              have HNX := hide (show foldE (chkPart (chkTy f)) (l.drop (j + 1)) s' = R by rw [← HFO.out, foldE_step HP.out (by rw [HCP.out]), HCP.out])
              have HLE := hide (show s' ≤ 500 by have := chkList_le (chkTy_le f) 20 ar s hs (by rw [HE.out]); rw [HE.out] at this; exact this)
              go_wp2_with (go_at_call 74; refine (HO.out _).mono ?_; rintro e w1 ⟨rfl, hb1, hc1⟩; have HB1 := hide ((HBO.out _).trans hb1); have HC1 := hide hc1; clear hb1 hc1)
              go_roundw
              case rel => exact ⟨j + 1, s', by omega, by go_num, HNX.out, HLE.out, HB1.out, HC1.out⟩
              case measure => simp [intOf]; omega
            · have EE := hide (show R = (E, s') by rw [← HFO.out, foldE_stop HP.out (by rw [HCP.out]; exact h0), HCP.out])
              have h0' : (E == 0) = false := by simpa using h0
              go_wp2_with (go_at_call 74; refine (HO.out _).mono ?_; rintro e w1 ⟨rfl, hb1, hc1⟩; have HB1 := hide ((HBO.out _).trans hb1); have HC1 := hide hc1; clear hb1 hc1)
              go_ret
              exact ⟨by rw [EE.out]; rfl, HB1.out, by rw [EE.out]; exact HC1.out⟩
      · have EE := hide (show R = (0, s) by rw [← HFO.out, foldE_done (by rw [HL.out]; omega)])
        go_wp2_with (fail)
        go_ret
        exact ⟨by rw [EE.out]; rfl, HBU.out, by rw [EE.out]; exact HCC.out⟩

set_option maxRecDepth 100000 in
set_option maxHeartbeats 1000000 in
theorem wOne_zero : wOneOk 0 := by
  intro k st t cs cb B d w hd hf hin hB hst hC
  obtain rfl : d = 12 := by omega
  cases k with
  | zero => exact hin.elim
  | succ k =>
  obtain ⟨A1, n1, cap1, A2, n2, cap2, rfl, hin2⟩ := hin
  have hcb := lt_of_block hC
  have HC := hide (fun ob : Obj => block_below hC ((Below.refl _ _).alloc (Nat.le_refl _) ob))
  have HB0 := hide (fun ob : Obj => (ButAt.refl cb w).alloc (by omega) ob)
  have E := hide (show chkTy 0 st t = (13, st) from rfl)
  rw [E.out]
  clear hC hin2 E hd
  go_enter Tryd.func103, Tryd.ntmps103
  go_wp2_with (fail)
  go_ret
  exact ⟨rfl, HB0.out _, HC.out _⟩

set_option maxRecDepth 100000 in
set_option maxHeartbeats 16000000 in
theorem wOne_succ {f : Nat} (HLI : wListOk f) (HNA : wNameOk f) : wOneOk (f + 1) := by
  intro k st t cs cb B d w hd hf hin hB hst hC
  have hd12 : d < 12 := by omega
  have hd12' : decide (12 ≤ d) = false := by simp; omega
  have hd0 : 0 ≤ d := by omega
  obtain ⟨d1, hd1⟩ : ∃ d1, d + 1 = d1 := ⟨_, rfl⟩
  have HD1 := hide (show d1 = 12 - (f : Int) by omega)
  clear hd
  cases k with
  | zero => exact hin.elim
  | succ k =>
  obtain ⟨A1, n1, cap1, A2, n2, cap2, rfl, hn1, hc1, hn2, hc2, hna, hof⟩ := hin
  have HLN := hide hna.len
  have HLO := hide hof.len
  have HNA2 := hide hna
  have HOF := hide hof
  have hcb := lt_of_block hC
  have hne : w.heap.size ≠ cb := by omega
  have hne' : cb ≠ w.heap.size := by omega
  have z0 : w.cell? ⟨cb, 0, none⟩ = some (.int .i64 st) := (block_cell hC 0).trans rfl
  have z1 : w.frozen? ⟨cb, 0, none⟩ = false := block_free hC 0
  obtain ⟨s1, hs1⟩ : ∃ s1 : Nat, s1 = st + 1 := ⟨_, rfl⟩
  have es1 : (st : Int) + 1 = (s1 : Int) := by omega
  have HBU := hide (fun ob : Obj => bump (u := .int .i64 s1) (o := ob) hC)
  have HS1 := hide hs1
  have HK := hide (fun ob : Obj => HNA (k) s1 A1 n1 cap1 t.name cb B d1 _ HD1.out (by omega) hn1 hc1 (parts_below HNA2.out ((HBU.out ob).1.be.mono hB)) hB)
  have HI := hide (fun ob : Obj => HLI (k) s1 A2 n2 cap2 21 t.of cb B d1 _ HD1.out (by omega) hn2 hc2 (by decide) (tys_below HOF.out ((HBU.out ob).1.be.mono hB)) hB)
  unfold maxLen at hc1 hc2
  obtain ⟨K, hKd⟩ : ∃ K, t.kind = K := ⟨_, rfl⟩
  rw [hKd]
  have HKD := hide hKd
  clear hna hof hKd hs1 HLI HNA hC hf
  by_cases hbig : 500 < s1
  · have E := hide (show chkTy (f + 1) st t = (4, s1) by rw [HS1.out]; exact chkTy_large (by have := HS1.out; omega))
    rw [E.out]
    go_enter Tryd.func103, Tryd.ntmps103
    go_wp2_with (fail)
    go_ret
    exact ⟨rfl, (HBU.out _).1, (HBU.out _).2⟩
  have hbig' : decide (500 < s1) = false := by simp; omega
  have hle : s1 ≤ 500 := by omega
  have HSM := hide (show ¬ 500 < st + 1 by have := HS1.out; omega)
  by_cases hk1 : K < 1
  · have E := hide (show chkTy (f + 1) st t = (10, s1) by rw [HS1.out]; exact chkTy_kind HSM.out (by rw [HKD.out]; exact .inl hk1))
    rw [E.out]
    have kf : K ≠ 2 ∧ K ≠ 1 := by omega
    have HIN := hide (fun W => in_any K 1 4 false W (by simp; omega))
    go_enter Tryd.func103, Tryd.ntmps103
    go_wp2_with ((go_at_call 114; refine (HIN.out _).mono ?_; rintro e w' ⟨rfl, rfl⟩))
    go_ret
    exact ⟨rfl, (HBU.out _).1, (HBU.out _).2⟩
  by_cases hk4 : 4 < K
  · have E := hide (show chkTy (f + 1) st t = (10, s1) by rw [HS1.out]; exact chkTy_kind HSM.out (by rw [HKD.out]; exact .inr hk4))
    rw [E.out]
    have hk1' : decide (K < 1) = false := by simp; omega
    have HIN := hide (fun W => in_any K 1 4 false W (by simp; omega))
    go_enter Tryd.func103, Tryd.ntmps103
    go_wp2_with ((go_at_call 114; refine (HIN.out _).mono ?_; rintro e w' ⟨rfl, rfl⟩))
    go_ret
    exact ⟨rfl, (HBU.out _).1, (HBU.out _).2⟩
  have HRG := hide (show ¬ (t.kind < 1 ∨ 4 < t.kind) by rw [HKD.out]; omega)
  rcases (show K = 1 ∨ K = 2 ∨ K = 3 ∨ K = 4 by omega) with rfl | rfl | rfl | rfl
  · by_cases ho : n2 = 0
    · subst ho
      have E := hide (show chkTy (f + 1) st t = chkName (chkTy f) t.name s1 by rw [HS1.out]; exact chkTy_name HSM.out HKD.out (by simp [badForm, HKD.out, HLN.out, HLO.out]))
      rw [E.out]
      obtain ⟨R, hR⟩ : ∃ R, chkName (chkTy f) t.name s1 = R := ⟨_, rfl⟩
      rw [hR] at HK ⊢
      obtain ⟨RE, RS⟩ := R
      clear hR E
      have HIN := hide (fun W => in_any 1 1 4 true W (by decide))
      go_enter Tryd.func103, Tryd.ntmps103
      go_wp2_with (first | (go_at_call 114; refine (HIN.out _).mono ?_; rintro e w' ⟨rfl, rfl⟩) | (go_at_call 73; refine (HK.out _ hle (HBU.out _).2).mono ?_; rintro e w1 ⟨rfl, hb1, hc1⟩; have HB1 := hide ((HBU.out _).1.trans hb1); have HC1 := hide hc1; clear hb1 hc1))
      go_ret
      exact ⟨rfl, HB1.out, HC1.out⟩
    · have hop : 0 < n2 := by omega
      have hop1 : (0 : Int) < (n2 : Int) := by omega
      have E := hide (show chkTy (f + 1) st t = (1, s1) by rw [HS1.out]; exact chkTy_form HSM.out HRG.out (by simp [badForm, HKD.out, HLN.out, HLO.out]; omega))
      rw [E.out]
      have HIN := hide (fun W => in_any 1 1 4 true W (by decide))
      go_enter Tryd.func103, Tryd.ntmps103
      go_wp2_with ((go_at_call 114; refine (HIN.out _).mono ?_; rintro e w' ⟨rfl, rfl⟩))
      go_ret
      exact ⟨rfl, (HBU.out _).1, (HBU.out _).2⟩
  · by_cases hnm : n1 = 0
    · subst hnm
      by_cases ho : n2 = 1
      · subst ho
        have E := hide (show chkTy (f + 1) st t = chkList (chkTy f) 21 t.of s1 by rw [HS1.out]; exact chkTy_list HSM.out HRG.out (by rw [HKD.out]; decide) (by simp [badForm, HKD.out, HLN.out, HLO.out]))
        rw [E.out]
        obtain ⟨R, hR⟩ : ∃ R, chkList (chkTy f) 21 t.of s1 = R := ⟨_, rfl⟩
        rw [hR] at HI ⊢
        obtain ⟨RE, RS⟩ := R
        clear hR E
        have HIN := hide (fun W => in_any 2 1 4 true W (by decide))
        go_enter Tryd.func103, Tryd.ntmps103
        go_wp2_with (first | (go_at_call 114; refine (HIN.out _).mono ?_; rintro e w' ⟨rfl, rfl⟩) | (go_at_call 74; refine (HI.out _ hle (HBU.out _).2).mono ?_; rintro e w1 ⟨rfl, hb1, hc1⟩; have HB1 := hide ((HBU.out _).1.trans hb1); have HC1 := hide hc1; clear hb1 hc1))
        go_ret
        exact ⟨rfl, HB1.out, HC1.out⟩
      · have ho1 : ¬ (n2 : Int) = 1 := by omega
        have ho2 : ((n2 : Int) == 1) = false := by simp; omega
        have E := hide (show chkTy (f + 1) st t = (1, s1) by rw [HS1.out]; exact chkTy_form HSM.out HRG.out (by simp [badForm, HKD.out, HLN.out, HLO.out]; omega))
        rw [E.out]
        have HIN := hide (fun W => in_any 2 1 4 true W (by decide))
        clear ho
        go_enter Tryd.func103, Tryd.ntmps103
        go_wp2_with ((go_at_call 114; refine (HIN.out _).mono ?_; rintro e w' ⟨rfl, rfl⟩))
        go_ret
        exact ⟨rfl, (HBU.out _).1, (HBU.out _).2⟩
    · have hnp : 0 < n1 := by omega
      have hnp1 : (0 : Int) < (n1 : Int) := by omega
      have E := hide (show chkTy (f + 1) st t = (1, s1) by rw [HS1.out]; exact chkTy_form HSM.out HRG.out (by simp [badForm, HKD.out, HLN.out, HLO.out]; omega))
      rw [E.out]
      have HIN := hide (fun W => in_any 2 1 4 true W (by decide))
      go_enter Tryd.func103, Tryd.ntmps103
      go_wp2_with ((go_at_call 114; refine (HIN.out _).mono ?_; rintro e w' ⟨rfl, rfl⟩))
      go_ret
      exact ⟨rfl, (HBU.out _).1, (HBU.out _).2⟩
  · by_cases hnm : n1 = 0
    · subst hnm
      by_cases ho : n2 = 1
      · subst ho
        have E := hide (show chkTy (f + 1) st t = chkList (chkTy f) 21 t.of s1 by rw [HS1.out]; exact chkTy_list HSM.out HRG.out (by rw [HKD.out]; decide) (by simp [badForm, HKD.out, HLN.out, HLO.out]))
        rw [E.out]
        obtain ⟨R, hR⟩ : ∃ R, chkList (chkTy f) 21 t.of s1 = R := ⟨_, rfl⟩
        rw [hR] at HI ⊢
        obtain ⟨RE, RS⟩ := R
        clear hR E
        have HIN := hide (fun W => in_any 3 1 4 true W (by decide))
        go_enter Tryd.func103, Tryd.ntmps103
        go_wp2_with (first | (go_at_call 114; refine (HIN.out _).mono ?_; rintro e w' ⟨rfl, rfl⟩) | (go_at_call 74; refine (HI.out _ hle (HBU.out _).2).mono ?_; rintro e w1 ⟨rfl, hb1, hc1⟩; have HB1 := hide ((HBU.out _).1.trans hb1); have HC1 := hide hc1; clear hb1 hc1))
        go_ret
        exact ⟨rfl, HB1.out, HC1.out⟩
      · have ho1 : ¬ (n2 : Int) = 1 := by omega
        have ho2 : ((n2 : Int) == 1) = false := by simp; omega
        have E := hide (show chkTy (f + 1) st t = (1, s1) by rw [HS1.out]; exact chkTy_form HSM.out HRG.out (by simp [badForm, HKD.out, HLN.out, HLO.out]; omega))
        rw [E.out]
        have HIN := hide (fun W => in_any 3 1 4 true W (by decide))
        clear ho
        go_enter Tryd.func103, Tryd.ntmps103
        go_wp2_with ((go_at_call 114; refine (HIN.out _).mono ?_; rintro e w' ⟨rfl, rfl⟩))
        go_ret
        exact ⟨rfl, (HBU.out _).1, (HBU.out _).2⟩
    · have hnp : 0 < n1 := by omega
      have hnp1 : (0 : Int) < (n1 : Int) := by omega
      have E := hide (show chkTy (f + 1) st t = (1, s1) by rw [HS1.out]; exact chkTy_form HSM.out HRG.out (by simp [badForm, HKD.out, HLN.out, HLO.out]; omega))
      rw [E.out]
      have HIN := hide (fun W => in_any 3 1 4 true W (by decide))
      go_enter Tryd.func103, Tryd.ntmps103
      go_wp2_with ((go_at_call 114; refine (HIN.out _).mono ?_; rintro e w' ⟨rfl, rfl⟩))
      go_ret
      exact ⟨rfl, (HBU.out _).1, (HBU.out _).2⟩
  · by_cases hnm : n1 = 0
    · subst hnm
      by_cases ho : n2 = 0
      · subst ho
        have E := hide (show chkTy (f + 1) st t = (1, s1) by rw [HS1.out]; exact chkTy_form HSM.out HRG.out (by simp [badForm, HKD.out, HLN.out, HLO.out]))
        rw [E.out]
        have HIN := hide (fun W => in_any 4 1 4 true W (by decide))
        go_enter Tryd.func103, Tryd.ntmps103
        go_wp2_with ((go_at_call 114; refine (HIN.out _).mono ?_; rintro e w' ⟨rfl, rfl⟩))
        go_ret
        exact ⟨rfl, (HBU.out _).1, (HBU.out _).2⟩
      · have ho1 : ¬ (n2 : Int) = 0 := by omega
        have ho2 : ((n2 : Int) == 0) = false := by simp; omega
        have E := hide (show chkTy (f + 1) st t = chkList (chkTy f) 21 t.of s1 by rw [HS1.out]; exact chkTy_list HSM.out HRG.out (by rw [HKD.out]; decide) (by simp [badForm, HKD.out, HLN.out, HLO.out]; omega))
        rw [E.out]
        obtain ⟨R, hR⟩ : ∃ R, chkList (chkTy f) 21 t.of s1 = R := ⟨_, rfl⟩
        rw [hR] at HI ⊢
        obtain ⟨RE, RS⟩ := R
        clear hR E
        have HIN := hide (fun W => in_any 4 1 4 true W (by decide))
        clear ho
        go_enter Tryd.func103, Tryd.ntmps103
        go_wp2_with (first | (go_at_call 114; refine (HIN.out _).mono ?_; rintro e w' ⟨rfl, rfl⟩) | (go_at_call 74; refine (HI.out _ hle (HBU.out _).2).mono ?_; rintro e w1 ⟨rfl, hb1, hc1⟩; have HB1 := hide ((HBU.out _).1.trans hb1); have HC1 := hide hc1; clear hb1 hc1))
        go_ret
        exact ⟨rfl, HB1.out, HC1.out⟩
    · have hnp : 0 < n1 := by omega
      have hnp1 : (0 : Int) < (n1 : Int) := by omega
      have E := hide (show chkTy (f + 1) st t = (1, s1) by rw [HS1.out]; exact chkTy_form HSM.out HRG.out (by simp [badForm, HKD.out, HLN.out, HLO.out]; omega))
      rw [E.out]
      have HIN := hide (fun W => in_any 4 1 4 true W (by decide))
      go_enter Tryd.func103, Tryd.ntmps103
      go_wp2_with ((go_at_call 114; refine (HIN.out _).mono ?_; rintro e w' ⟨rfl, rfl⟩))
      go_ret
      exact ⟨rfl, (HBU.out _).1, (HBU.out _).2⟩

theorem wAll : ∀ f, wOneOk f
  | 0 => wOne_zero
  | f + 1 => wOne_succ (wList_of (wAll f)) (wName_of (wList_of (wAll f)))
theorem wList_any (f : Nat) : wListOk f := wList_of (wAll f)
theorem wName_any (f : Nat) : wNameOk f := wName_of (wList_any f)
end Go.Proofs.YtecancnojdifaaaDoor
