/- The reference's book: Take. -/
import Derived.Test.YtapfcnfmonknjaaGreatDoorRbSr
import Derived.Test.YtapfcnfmonknjaaGreatDoorRbS
import Derived.Test.YtapfcnfmonknjaaGreatDoorRegChain
import Derived.Test.YtapfcnfmonknjaaGreatDoorBytes
namespace Go.Proofs.YtapfcnfmonknjaaGreatDoor.Bk
open Go.RowKit Go.Maps Go.Sort
set_option linter.unusedVariables false
set_option linter.unusedSimpArgs false
set_option maxHeartbeats 4000000 in
theorem RIsPrint (s : ByteArray) (w : World) (hs : s.size ≤ maxLen) :
    Calls Tryz.prog 25 #[.string s] w fun e w' => e = .returned (.bool (isP s)) ∧ Below w.heap.size w w' := by
  have HT := hide (fun W => trimH s W hs)
  unfold hexC at HT
  unfold maxLen at hs
  by_cases h1 : s.size = 16
  · have h1' : (s.size : Int) = 16 := by omega
    obtain ⟨t, ht⟩ : ∃ t : ByteArray, ⟨(Lib.trimS s.data.toList (⟨#[48, 49, 50, 51, 52, 53, 54, 55, 56, 57, 97, 98, 99, 100, 101, 102]⟩ : ByteArray).data.toList).toArray⟩ = t := ⟨_, rfl⟩
    have et : (t.toList = []) ↔ isP s = true := by
      rw [← ht, isP, decide_eq_true h1, Bool.true_and]
      have h9 := strnil (Lib.trimS s.data.toList hexC.data.toList)
      unfold hexC at h9
      rw [← trimS_nil]
      constructor
      · intro h; rw [h] at h9; exact of_decide_eq_true h9.symm
      · intro h
        unfold hexC at h
        rw [decide_eq_true h] at h9
        exact eq_of_beq h9
    rw [ht] at HT
    clear ht
    have ET := hide et
    by_cases h2 : isP s = true
    · have et3 : t.toList = [] := et.2 h2
      have et2 : t.toList.isEmpty = true := by rw [et3]; rfl
      clear et
      go_enter Tryz.func25, Tryz.ntmps25
      go_wp2_with (first | (go_at_call 23; refine (HT.out _).mono ?_; rintro e w1 ⟨rfl, hw1⟩))
      go_ret
      exact ⟨by first | rfl | (rw [h2]; rfl) | (rw [h3]; rfl), hw1⟩
    · have et3 : ¬ t.toList = [] := fun e => h2 (et.1 e)
      have et2 : t.toList.isEmpty = false := by cases h : t.toList with
        | nil => exact absurd h et3
        | cons _ _ => rfl
      have h3 : isP s = false := by simpa using h2
      clear et h2
      go_enter Tryz.func25, Tryz.ntmps25
      go_wp2_with (first | (go_at_call 23; refine (HT.out _).mono ?_; rintro e w1 ⟨rfl, hw1⟩))
      go_ret
      exact ⟨by first | rfl | (rw [h2]; rfl) | (rw [h3]; rfl), hw1⟩
  · have h1' : ((s.size : Int) == 16) = false := beq_eq_false_iff_ne.2 (by omega)
    have h3 : isP s = false := by rw [isP, decide_eq_false h1]; rfl
    go_enter Tryz.func25, Tryz.ntmps25
    go_wp2_with (fail)
    go_ret
    exact ⟨rfl, Below.refl _ _⟩
theorem outB_in (n lo hi : Int) (w : World) {b : Bool} (h : outB n lo hi = b) :
    Calls Tryz.prog 26 #[.int .i64 n, .int .i64 lo, .int .i64 hi] w fun e w' => e = .returned (.bool (!b)) ∧ w' = w :=
  (in_any n lo hi w).mono fun e w' ⟨h1, h2⟩ => ⟨by rw [h1, ← h]; rfl, h2.symm⟩
set_option maxRecDepth 100000 in
set_option maxHeartbeats 4000000 in
theorem RTake_bad (q : Nat) (s : ByteArray) (at_ wt : Int) (w : World) (hs : s.size ≤ maxLen) (he : tkE s at_ wt ≠ 0) :
    Calls Tryz.prog 6 #[.pointer (some ⟨q, 0, none⟩), .string s, .int .i64 at_, .int .i64 wt] w fun e w' => e = .returned (.tuple #[.int .i64 0, .bool false, .int .i64 (tkE s at_ wt)]) ∧ Below w.heap.size w w' := by
  have CP0 := fun W => RIsPrint s W hs
  cases h2 : isP s
  · have E := hide (show tkE s at_ wt = 1 by rw [tkE, if_pos h2])
    rw [h2] at CP0
    have CP := hide CP0
    clear he h2 CP0
    go_enter Tryz.func6, Tryz.ntmps6
    go_wp2_with (first | (go_at_call 25; refine (CP.out _).mono ?_; rintro e w1 ⟨rfl, hw1⟩; have HB1 := hide hw1; skip; clear hw1))
    refine bodyPost_ret (by simp [results, Tryz.results6, go_sem]; try rfl) rfl ?_
    exact ⟨by rw [E.out], HB1.out⟩
  · have h3 : (outB at_ 0 3155759999 || outB wt 1 1000000) = true := by
      rw [tkE, if_neg (by rw [h2]; decide)] at he
      exact Decidable.byContradiction fun h => he (if_neg h)
    have E := hide (show tkE s at_ wt = 2 by rw [tkE, if_neg (by rw [h2]; decide), if_pos h3])
    rw [h2] at CP0
    have CP := hide CP0
    clear he h2 CP0
    cases h4 : outB at_ 0 3155759999
    · rw [h4, Bool.false_or] at h3
      have O1 := hide (fun W => outB_in at_ 0 3155759999 W h4)
      have O2 := hide (fun W => outB_in wt 1 1000000 W h3)
      clear h3 h4
      go_enter Tryz.func6, Tryz.ntmps6
      go_wp2_with (first | (go_at_call 25; refine (CP.out _).mono ?_; rintro e w1 ⟨rfl, hw1⟩; have HB1 := hide hw1; skip; clear hw1) | (go_at_call 26; with_reducible refine (O1.out _).mono ?_; rintro e w2 ⟨rfl, rfl⟩) | (go_at_call 26; with_reducible refine (O2.out _).mono ?_; rintro e w3 ⟨rfl, rfl⟩))
      refine bodyPost_ret (by simp [results, Tryz.results6, go_sem]; try rfl) rfl ?_
      exact ⟨by rw [E.out], HB1.out⟩
    · have O1 := hide (fun W => outB_in at_ 0 3155759999 W h4)
      clear h3 h4
      go_enter Tryz.func6, Tryz.ntmps6
      go_wp2_with (first | (go_at_call 25; refine (CP.out _).mono ?_; rintro e w1 ⟨rfl, hw1⟩; have HB1 := hide hw1; skip; clear hw1) | (go_at_call 26; with_reducible refine (O1.out _).mono ?_; rintro e w2 ⟨rfl, rfl⟩))
      refine bodyPost_ret (by simp [results, Tryz.results6, go_sem]; try rfl) rfl ?_
      exact ⟨by rw [E.out], HB1.out⟩
/-- A row of records: a cell is read, a cell is set. -/
theorem rr_cell {W : World} {B g n c k : Nat} {l : List Pr} {r : Pr} (h : W.ownsRow B 64 6 (.slice (some ⟨g, 0, none⟩) n c) n (l.flatMap Rr)) (hr : l[k]? = some r) (j : Nat) (hj : j < 6) (v : Value) (hv : (Rr r)[j]? = some v) : W.cell? ⟨g, k * 6 + j, none⟩ = some v :=
  own_cell h _ _ (by
    have h9 := fm_get (f := Rr) (sz := 6) (fun _ => rfl) l k j hj
    rw [hr] at h9
    exact h9.trans hv)
theorem rr_set {W : World} {B g n c k : Nat} {l : List Pr} {r : Pr} (h : W.ownsRow B 64 6 (.slice (some ⟨g, 0, none⟩) n c) n (l.flatMap Rr)) (hr : l[k]? = some r) (j : Nat) (hj : j < 6) (v : Value) (r' : Pr) (hv : Rr r' = (Rr r).set j v) :
    (W.setCell ⟨g, k * 6 + j, none⟩ v).ownsRow B 64 6 (.slice (some ⟨g, 0, none⟩) n c) n ((l.set k r').flatMap Rr) := by
  have h9 := own_set h (k * 6 + j) v
  rw [← fm_set (f := Rr) (sz := 6) (fun _ => rfl) l k j r r' v hj hr hv] at h9
  exact h9
theorem set_at {l : List Pr} {k : Nat} {r : Pr} (h : l[k]? = some r) (r' : Pr) : (l.set k r')[k]? = some r' := by
  have h1 := (List.getElem?_eq_some_iff.1 h).1
  rw [List.getElem?_set, if_pos rfl, if_pos h1]
theorem set_upP {l : List Pr} (hn : (l.map Pr.p).Nodup) {k : Nat} {r : Pr} (h : l[k]? = some r) (t wt : Int) : l.set k (upR t wt r) = upP r.p t wt l := by
  apply List.ext_getElem?
  intro i
  rw [List.getElem?_set, upP, List.getElem?_map]
  have hk := (List.getElem?_eq_some_iff.1 h).1
  by_cases e : k = i
  · subst e
    rw [if_pos rfl, if_pos hk, h]
    simp
  · rw [if_neg e]
    cases hi : l[i]? with
    | none => rfl
    | some x =>
      have hne : x.p ≠ r.p := fun e2 => by
        have h1 := (List.getElem?_eq_some_iff.1 hi).1
        rcases Nat.lt_or_gt_of_ne e with h9 | h9
        · have h8 := List.pairwise_iff_getElem.1 hn k i (by simpa using hk) (by simpa using h1) h9
          simp only [List.getElem_map] at h8
          rw [(List.getElem?_eq_some_iff.1 h).2, (List.getElem?_eq_some_iff.1 hi).2] at h8
          exact h8 e2.symm
        · have h8 := List.pairwise_iff_getElem.1 hn i k (by simpa using h1) (by simpa using hk) h9
          simp only [List.getElem_map] at h8
          rw [(List.getElem?_eq_some_iff.1 h).2, (List.getElem?_eq_some_iff.1 hi).2] at h8
          exact h8 e2
      simp [hne]
theorem upP_perm_new {lr l' : List Pr} {s : List UInt8} {g t wt : Int} (hs : s ∉ lr.map Pr.p) (hp : l'.Perm (lr ++ [⟨s, g + 1, 0, 0, t, t⟩])) : (upP s t wt l').Perm (lr ++ [newR s g t wt]) := by
  refine (hp.map _).trans ?_
  rw [List.map_append]
  have e : lr.map (fun r => if r.p = s then upR t wt r else r) = lr := by
    have h9 : lr.map (fun r => if r.p = s then upR t wt r else r) = lr.map id := List.map_congr_left fun x hx => if_neg fun e => hs (List.mem_map.2 ⟨x, hx, e⟩)
    rw [h9, List.map_id]
  rw [e]
  have e2 : [(⟨s, g + 1, 0, 0, t, t⟩ : Pr)].map (fun r => if r.p = s then upR t wt r else r) = [newR s g t wt] := by
    simp [upR, newR]
  rw [e2]
theorem Up.upP {l : List Pr} (h : Up l) (s : List UInt8) (t wt : Int) : Up (upP s t wt l) := h.mapG fun r => by
  split <;> rfl
theorem find_yes {l : List Pr} {s : List UInt8} {z : Int} (hn : (l.map Pr.p).Nodup) (h : FindR l s z) {r : Pr} (hr : r ∈ l) (hrp : r.p = s) : ∃ k : Nat, z = (k : Int) ∧ l[k]? = some r := by
  rcases h with ⟨_, hno⟩ | ⟨k, r2, rfl, hk, hr2⟩
  · exact absurd (List.mem_map.2 ⟨r, hr, hrp⟩) hno
  · exact ⟨k, rfl, by rw [hk, all_come.nodup_inj hn (List.mem_of_getElem? hk) hr (hr2.trans hrp.symm)]⟩
theorem find_no {l : List Pr} {s : List UInt8} {z : Int} (h : FindR l s z) (hs : s ∉ l.map Pr.p) : z < 0 := by
  rcases h with ⟨h, _⟩ | ⟨k, r2, rfl, hk, hr2⟩
  · exact h
  · exact absurd (List.mem_map.2 ⟨r2, List.mem_of_getElem? hk, hr2⟩) hs
theorem SortR_n {B n : Nat} {v : Value} {l : List Pr} {w : World} (h : w.ownsRow B 64 6 v n (l.flatMap Rr)) (hl : l.length = n) (hn : n ≤ 100000) (hd : (l.map Pr.p).Nodup) :
    Calls Tryz.prog 28 #[v, .func (.func 29) #[] #[]] w fun e w' => e = .returned (.tuple #[]) ∧ (∃ l' : List Pr, l'.Perm l ∧ Up l' ∧ w'.ownsRow B 64 6 v n (l'.flatMap Rr)) ∧ w.grownBy w' v.ownBlock := by
  subst hl
  exact SortR_any h hn hd
theorem app_keepR {w w8 : World} {o2 : Obj} {v : Value} (hg8 : ((w.alloc o2).drew).grownBy w8 v.ownBlock) : ∀ j o, w.heap[j]? = some o → v.ownBlock ≠ some j → w8.heap[j]? = some o :=
  fun j o e ne => (hg8.block j (by have := lt_of_block e; simp; omega) (fun e2 => ne e2.symm)).trans (block_below e (((Below.refl w.heap.size w).alloc (Nat.le_refl _) o2).drew))
theorem info_rec : (Tryz.prog.info? 64).map (fun i => (i.zero, i.size, i.bytes)) = some (some (.agg #[.string ByteArray.empty, .int .i64 0, .int .i64 0, .int .i64 0, .int .i64 0, .int .i64 0]), 6, 56) := by kernel_rfl
set_option maxRecDepth 100000 in
set_option maxHeartbeats 8000000 in
theorem RTake_old {B q : Nat} {given : Int} {lv sv : Value} {lr : List Pr} {w : World} (h : RM B w q lv given sv lr) (hu : Up lr) (hl : lr.length ≤ 1000) (s : ByteArray) (at_ wt : Int) (hE : tkE s at_ wt = 0) (r : Pr) (hr : r ∈ lr) (hrp : r.p = s.data.toList)
    (hb1 : 0 ≤ r.ev ∧ r.ev ≤ 1000000) (hb2 : 0 ≤ r.wt ∧ r.wt ≤ 1000000000000) (hBz : B ≤ w.heap.size) :
    Calls Tryz.prog 6 #[.pointer (some ⟨q, 0, none⟩), .string s, .int .i64 at_, .int .i64 wt] w fun e w' => e = .returned (.tuple #[.int .i64 r.g, .bool false, .int .i64 0]) ∧
      RM B w' q lv given sv (upP s.data.toList at_ wt lr) ∧ Keep B (fun k => lv.ownBlock = some k) w w' := by
  obtain ⟨e1, e2, e3⟩ := tkE_ok hE
  have h16 := isP_size e1
  have hsm : s.size ≤ maxLen := by rw [h16]; decide
  have CP := hide (fun W => e1 ▸ RIsPrint s W hsm)
  have O1 := hide (fun W => outB_in at_ 0 3155759999 W e2)
  have O2 := hide (fun W => outB_in wt 1 1000000 W e3)
  have hwt : 1 ≤ wt ∧ wt ≤ 1000000 := by simp [outB] at e3; omega
  have HH := hide h
  have HFY := hide (fun z (hz : FindR lr s.data.toList z) => find_yes hu.nd hz hr hrp)
  have HND := hide hu.nd
  have HRP := hide hrp
  have CF := hide (fun (W : World) (hb : Below w.heap.size w W) => Rfind_any (HH.out.below hb) hl s)
  clear h hE e1 e2 e3 h16 hu hsm hr hrp
  obtain ⟨rp, rg, rv, rw_, rf, rl⟩ := r
  simp only at hb1 hb2
  go_enter Tryz.func6, Tryz.ntmps6
  go_wp2_with (first | (go_at_call 25; refine (CP.out _).mono ?_; rintro e w1 ⟨rfl, hw1⟩; have HB1 := hide hw1; skip; clear hw1) | (go_at_call 26; with_reducible refine (O1.out _).mono ?_; rintro e w2 ⟨rfl, rfl⟩) | (go_at_call 26; with_reducible refine (O2.out _).mono ?_; rintro e w3 ⟨rfl, rfl⟩) | (go_at_call 27; refine (CF.out _ HB1.out).mono ?_; rintro e w5 ⟨z, rfl, hz, hw5⟩; obtain ⟨k, rfl, hka⟩ := HFY.out z hz; have HKA := hide hka; have HB5 := hide (HB1.out.trans (hw5.mono HB1.out.size)); have HM := hide (HH.out.below HB5.out); obtain ⟨g, cap, cur, e0, hgB, hgb, _⟩ := own_blk HM.out.row (show 0 < lr.length by have := (List.getElem?_eq_some_iff.1 hka).1; omega); subst e0; have HROW := hide HM.out.row; have HQG := hide (HM.out.ne rfl); have y0 : w5.cell? ⟨q, 0, none⟩ = some (.slice (some ⟨g, 0, none⟩) lr.length cap) := (block_cell HM.out.box 0).trans rfl; have c1 := rr_cell HROW.out hka 1 (by decide) (.int .i64 rv) rfl; have c2 := rr_cell HROW.out hka 2 (by decide) (.int .i64 rw_) rfl; have HF := hide (fun j => own_free HROW.out j); have f1 := HF.out (k * 6 + 1); have f2 := HF.out (k * 6 + 2); have hkl' : (k : Int) < (lr.length : Int) := (by have := (List.getElem?_eq_some_iff.1 hka).1; omega); clear hgb hz hw5 hka))
  obtain ⟨w6, hw6⟩ : ∃ w6, (w5.setCell ⟨g, k * 6 + 1, none⟩ (.int .i64 (rv + 1))).setCell ⟨g, k * 6 + 2, none⟩ (.int .i64 (rw_ + wt)) = w6 := ⟨_, rfl⟩
  have HR6 := hide (hw6 ▸ rr_set (rr_set HROW.out HKA.out 1 (by decide) (.int .i64 (rv + 1)) ⟨rp, rg, rv + 1, rw_, rf, rl⟩ rfl) (set_at HKA.out _) 2 (by decide) (.int .i64 (rw_ + wt)) ⟨rp, rg, rv + 1, rw_ + wt, rf, rl⟩ rfl)
  have HA6 := hide (set_at (set_at HKA.out ⟨rp, rg, rv + 1, rw_, rf, rl⟩) ⟨rp, rg, rv + 1, rw_ + wt, rf, rl⟩)
  have HS0 := hide (show ∀ V, Below w6.heap.size w6 V → (fun V => V.cell? ⟨g, k * 6 + 3, none⟩ = some (.int .i64 rf) ∧ V.cell? ⟨g, k * 6 + 4, none⟩ = some (.int .i64 rl)) V from fun V hb => ⟨rr_cell (own_below HR6.out hb) HA6.out 3 (by decide) _ rfl, rr_cell (own_below HR6.out hb) HA6.out 4 (by decide) _ rfl⟩)
  refine wp_region_chain (fun V => V.cell? ⟨g, k * 6 + 3, none⟩ = some (.int .i64 rf) ∧ V.cell? ⟨g, k * 6 + 4, none⟩ = some (.int .i64 rl)) 14 (by as_aux_lemma => kernel_rfl) (N := 20) (by as_aux_lemma => kernel_rfl) ?_; intro hsh
  rw [hw6]
  have HS9 := HS0.out w6.drew (below_drewN (Below.refl _ _) 1)
  refine wpAnyC_take0 (i := 0) (k := 14) (v := ?_) (d := some 92) rfl (by rfl) (by as_aux_lemma => kernel_rfl) (by as_aux_lemma => kernel_rfl) (by as_aux_lemma => kernel_rfl) hsh (by decide) (by intro _ _ _ h; exact h) (by assumption) (Or.inl ⟨by rfl, ?hy⟩) ?_; (case hy => (intro W _; go_simp; (try with_reducible rfl))); clear hsh; intro hsh
  refine wpAnyC_take0 (i := 1) (k := 14) (v := ?_) (d := some 93) rfl (by rfl) (by as_aux_lemma => kernel_rfl) (by as_aux_lemma => kernel_rfl) (by as_aux_lemma => kernel_rfl) hsh (by decide) (by intro _ _ _ h; exact h) (by assumption) (Or.inl ⟨by rfl, ?hy⟩) ?_; (case hy => (intro W _; go_simp; (try with_reducible rfl))); clear hsh; intro hsh
  refine wpAnyC_take0 (i := 2) (k := 14) (v := ?_) (d := some 94) rfl (by rfl) (by as_aux_lemma => kernel_rfl) (by as_aux_lemma => kernel_rfl) (by as_aux_lemma => kernel_rfl) hsh (by decide) (by intro _ _ _ h; exact h) (by assumption) (Or.inl ⟨by rfl, ?hy⟩) ?_; (case hy => (intro W _; go_simp; (try with_reducible rfl))); clear hsh; intro hsh
  refine wpAnyC_take0 (i := 3) (k := 14) (v := ?_) (d := some 95) rfl (by rfl) (by as_aux_lemma => kernel_rfl) (by as_aux_lemma => kernel_rfl) (by as_aux_lemma => kernel_rfl) hsh (by decide) (by intro _ _ _ h; exact h) (by assumption) (Or.inl ⟨by rfl, ?hy⟩) ?_; (case hy => (intro W _; go_simp; (try with_reducible rfl))); clear hsh; intro hsh
  refine wpAnyC_take0 (i := 4) (k := 14) (v := ?_) (d := some 96) rfl (by rfl) (by as_aux_lemma => kernel_rfl) (by as_aux_lemma => kernel_rfl) (by as_aux_lemma => kernel_rfl) hsh (by decide) (by intro _ _ _ h; exact h) (by assumption) (Or.inl ⟨by rfl, ?hy⟩) ?_; (case hy => (intro W _; go_simp; (try with_reducible rfl))); clear hsh; intro hsh
  refine wpAnyC_take (i := 5) (k := 14) (f := 40) (v := ?_) (d := some 97) rfl (by rfl) (by as_aux_lemma => kernel_rfl) (by as_aux_lemma => kernel_rfl) (by as_aux_lemma => kernel_rfl) hsh (by decide) (by as_aux_lemma => kernel_rfl) (by intro _ _ _ h; exact h) (by assumption) (Or.inl ⟨by rfl, ?hy⟩) ?_; (case hy => (rintro W ⟨a3, a4⟩; go_simp; (try with_reducible rfl))); clear hsh; intro hsh
  refine wpAnyC_take0 (i := 6) (k := 14) (v := ?_) (d := some 98) rfl (by rfl) (by as_aux_lemma => kernel_rfl) (by as_aux_lemma => kernel_rfl) (by as_aux_lemma => kernel_rfl) hsh (by decide) (by intro _ _ _ h; exact h) (by assumption) (Or.inl ⟨by rfl, ?hy⟩) ?_; (case hy => (intro W _; go_simp; (try with_reducible rfl))); clear hsh; intro hsh
  refine wpAnyC_take0 (i := 7) (k := 14) (v := ?_) (d := some 99) rfl (by rfl) (by as_aux_lemma => kernel_rfl) (by as_aux_lemma => kernel_rfl) (by as_aux_lemma => kernel_rfl) hsh (by decide) (by intro _ _ _ h; exact h) (by assumption) (Or.inl ⟨by rfl, ?hy⟩) ?_; (case hy => (intro W _; go_simp; (try with_reducible rfl))); clear hsh; intro hsh
  refine wpAnyC_take0 (i := 8) (k := 14) (v := ?_) (d := some 100) rfl (by rfl) (by as_aux_lemma => kernel_rfl) (by as_aux_lemma => kernel_rfl) (by as_aux_lemma => kernel_rfl) hsh (by decide) (by intro _ _ _ h; exact h) (by assumption) (Or.inl ⟨by rfl, ?hy⟩) ?_; (case hy => (intro W _; go_simp; (try with_reducible rfl))); clear hsh; intro hsh
  refine wpAnyC_take0 (i := 9) (k := 14) (v := ?_) (d := some 101) rfl (by rfl) (by as_aux_lemma => kernel_rfl) (by as_aux_lemma => kernel_rfl) (by as_aux_lemma => kernel_rfl) hsh (by decide) (by intro _ _ _ h; exact h) (by assumption) (Or.inl ⟨by rfl, ?hy⟩) ?_; (case hy => (intro W _; go_simp; (try with_reducible rfl))); clear hsh; intro hsh
  refine wpAnyC_take0 (i := 10) (k := 14) (v := ?_) (d := some 102) rfl (by rfl) (by as_aux_lemma => kernel_rfl) (by as_aux_lemma => kernel_rfl) (by as_aux_lemma => kernel_rfl) hsh (by decide) (by intro _ _ _ h; exact h) (by assumption) (Or.inl ⟨by rfl, ?hy⟩) ?_; (case hy => (intro W _; go_simp; (try with_reducible rfl))); clear hsh; intro hsh
  refine wpAnyC_take (i := 11) (k := 14) (f := 40) (v := ?_) (d := some 103) rfl (by rfl) (by as_aux_lemma => kernel_rfl) (by as_aux_lemma => kernel_rfl) (by as_aux_lemma => kernel_rfl) hsh (by decide) (by as_aux_lemma => kernel_rfl) (by intro _ _ _ h; exact h) (by assumption) (Or.inl ⟨by rfl, ?hy⟩) ?_; (case hy => (rintro W ⟨a3, a4⟩; go_simp; (try with_reducible rfl))); clear hsh; intro hsh
  refine wpAnyC_take0 (i := 12) (k := 14) (v := ?_) (d := some 104) rfl (by rfl) (by as_aux_lemma => kernel_rfl) (by as_aux_lemma => kernel_rfl) (by as_aux_lemma => kernel_rfl) hsh (by decide) (by intro _ _ _ h; exact h) (by assumption) (Or.inl ⟨by rfl, ?hy⟩) ?_; (case hy => (intro W _; go_simp; (try with_reducible rfl))); clear hsh; intro hsh
  refine wpAnyC_take0 (i := 13) (k := 14) (v := ?_) (d := some 105) rfl (by rfl) (by as_aux_lemma => kernel_rfl) (by as_aux_lemma => kernel_rfl) (by as_aux_lemma => kernel_rfl) hsh (by decide) (by intro _ _ _ h; exact h) (by assumption) (Or.inl ⟨by rfl, ?hy⟩) ?_; (case hy => (intro W _; go_simp; (try with_reducible rfl))); clear hsh; intro hsh
  refine wpAnyC_tail (by as_aux_lemma => kernel_rfl) (by simp) (by as_aux_lemma => kernel_rfl) ?_; simp only [List.drop_succ_cons, List.drop_zero]; clear hsh
  go_simp
  have hHF := fun j => own_free HR6.out j
  have g3 := hHF (k * 6 + 3)
  have g4 := hHF (k * 6 + 4)
  have g5 := rr_cell HR6.out HA6.out 5 (by decide) (.int .i64 rg) rfl
  have g6 := rr_cell HR6.out HA6.out 3 (by decide) (.int .i64 rf) rfl
  have g7 := rr_cell HR6.out HA6.out 4 (by decide) (.int .i64 rl) rfl
  clear hHF
  go_wp2_with (fail)
  refine bodyPost_ret (by simp [results, Tryz.results6, go_sem]; try rfl) rfl ?_
  have hrow := rr_set (rr_set HR6.out HA6.out 3 (by decide) (.int .i64 (min rf at_)) ⟨rp, rg, rv + 1, rw_ + wt, min rf at_, rl⟩ rfl) (set_at HA6.out _) 4 (by decide) (.int .i64 (max rl at_)) ⟨rp, rg, rv + 1, rw_ + wt, min rf at_, max rl at_⟩ rfl
  rw [List.set_set, List.set_set, List.set_set] at hrow
  have hset : lr.set k ⟨rp, rg, rv + 1, rw_ + wt, min rf at_, max rl at_⟩ = upP s.data.toList at_ wt lr := by
    rw [← HRP.out]
    exact set_upP HND.out HKA.out at_ wt
  rw [hset] at hrow
  have hln : (upP s.data.toList at_ wt lr).length = lr.length := by rw [upP, List.length_map]
  have hst : ∀ i o, w5.heap[i]? = some o → i ≠ g → ((w6.setCell ⟨g, k * 6 + 3, none⟩ (.int .i64 (min rf at_))).setCell ⟨g, k * 6 + 4, none⟩ (.int .i64 (max rl at_))).drew.heap[i]? = some o := fun i o e ne => by
    rw [← hw6]
    exact block_set_other (block_set_other (block_set_other (block_set_other e _ _ ne) _ _ ne) _ _ ne) _ _ ne
  refine ⟨rfl, ⟨hst q _ HM.out.box HQG.out.symm, by rw [hln]; exact hrow.drew, HM.out.lo⟩, ?_⟩
  refine (Keep.of_below HB5.out hBz).trans ⟨?_, fun i o e ne => hst i o e (fun e2 => ne (by rw [e2]; rfl))⟩
  rw [← hw6]
  exact (((((Below.refl B w5).setCell (p := ⟨g, k * 6 + 1, none⟩) hgB _).setCell (p := ⟨g, k * 6 + 2, none⟩) hgB _).setCell (p := ⟨g, k * 6 + 3, none⟩) hgB _).setCell (p := ⟨g, k * 6 + 4, none⟩) hgB _).drew
set_option maxRecDepth 100000 in
set_option maxHeartbeats 8000000 in
theorem RTake_new {B q : Nat} {given : Int} {lv sv : Value} {lr : List Pr} {w : World} (h : RM B w q lv given sv lr) (hu : Up lr) (s : ByteArray) (at_ wt : Int) (hE : tkE s at_ wt = 0) (hs : s.data.toList ∉ lr.map Pr.p)
    (hl : lr.length < 1000) (hla : 0 ≤ given ∧ given ≤ 1000000) (hBz : B ≤ w.heap.size) :
    Calls Tryz.prog 6 #[.pointer (some ⟨q, 0, none⟩), .string s, .int .i64 at_, .int .i64 wt] w fun e w' => e = .returned (.tuple #[.int .i64 (given + 1), .bool true, .int .i64 0]) ∧
      (∃ lv' lr', lr'.Perm (lr ++ [newR s.data.toList given at_ wt]) ∧ Up lr' ∧ RM B w' q lv' (given + 1) sv lr' ∧ (∀ k, lv'.ownBlock = some k → lv.ownBlock = some k ∨ w.heap.size ≤ k)) ∧ Keep B (RK q lv) w w' := by
  obtain ⟨e1, e2, e3⟩ := tkE_ok hE
  have h16 := isP_size e1
  have hsm : s.size ≤ maxLen := by rw [h16]; decide
  have CP := hide (fun W => e1 ▸ RIsPrint s W hsm)
  have O1 := hide (fun W => outB_in at_ 0 3155759999 W e2)
  have O2 := hide (fun W => outB_in wt 1 1000000 W e3)
  have hwt : 1 ≤ wt ∧ wt ≤ 1000000 := by simp [outB] at e3; omega
  obtain ⟨LA, lc, rfl⟩ := own_sl h.row
  obtain ⟨i0, hi0, iz0, iz1, iz2⟩ := info_parts info_rec
  have HH := hide h
  have HFN := hide (fun z (hz : FindR lr s.data.toList z) => find_no hz hs)
  have HS := hide hs
  have HU := hide hu
  have CF := hide (fun (W : World) (hb : Below w.heap.size w W) => Rfind_any (HH.out.below hb) (by omega) s)
  have hll : (lr.length : Int) < 1000 := by omega
  clear h hE e1 e2 e3 h16 hsm hu hs
  go_enter Tryz.func6, Tryz.ntmps6
  go_wp2_with (first | (go_at_call 25; refine (CP.out _).mono ?_; rintro e w1 ⟨rfl, hw1⟩; have HB1 := hide hw1; skip; clear hw1) | (go_at_call 26; with_reducible refine (O1.out _).mono ?_; rintro e w2 ⟨rfl, rfl⟩) | (go_at_call 26; with_reducible refine (O2.out _).mono ?_; rintro e w3 ⟨rfl, rfl⟩) | (go_at_call 27; refine (CF.out _ HB1.out).mono ?_; rintro e w5 ⟨z, rfl, hz, hw5⟩; have hz0 := HFN.out z hz; have HB5 := hide (HB1.out.trans (hw5.mono HB1.out.size)); have HM := hide (HH.out.below HB5.out); have y0 : w5.cell? ⟨q, 0, none⟩ = some (.slice LA lr.length lc) := (block_cell HM.out.box 0).trans rfl; have y1 : w5.cell? ⟨q, 1, none⟩ = some (.int .i64 given) := (block_cell HM.out.box 1).trans rfl; have yf := block_free HM.out.box 1; clear hz hw5))
  obtain ⟨wa, hwa⟩ : ∃ wa, w5.setCell ⟨q, 1, none⟩ (.int .i64 (given + 1)) = wa := ⟨_, rfl⟩
  have hbx : wa.heap[q]? = some (.cells #[.slice LA lr.length lc, .int .i64 (given + 1), sv] 29 (0, 0)) := hwa ▸ block_set HM.out.box _
  have HMA := hide (show RM B wa q (.slice LA lr.length lc) (given + 1) sv lr from HM.out.box2 (given + 1) sv hbx (fun k o _ ne e => hwa ▸ block_set_other e _ _ ne))
  have HKA := hide (show Keep B (RK q (.slice LA lr.length lc)) w5 wa from hwa ▸ Keep.set _ 1 _ HM.out.lo (.inl rfl))
  have hza : B ≤ wa.heap.size := by have := HKA.out.be.size; have := HB5.out.size; omega
  have HSS := hide (show ∀ V, Below wa.heap.size wa V → (fun V => V.cell? ⟨q, 1, none⟩ = some (.int .i64 (given + 1)) ∧ V.cell? ⟨q, 0, none⟩ = some (.slice LA lr.length lc)) V from fun V hb => ⟨(block_cell (block_below hbx hb) 1).trans rfl, (block_cell (block_below hbx hb) 0).trans rfl⟩)
  refine wp_region_chain (fun V => V.cell? ⟨q, 1, none⟩ = some (.int .i64 (given + 1)) ∧ V.cell? ⟨q, 0, none⟩ = some (.slice LA lr.length lc)) 14 (by as_aux_lemma => kernel_rfl) (N := 18) (by as_aux_lemma => kernel_rfl) ?_; intro hsh
  rw [hwa]
  have HS0 := HSS.out wa.drew (below_drewN (Below.refl _ _) 1)
  have HSA := HSS.out (wa.drew.alloc (.cells #[.string s, .int .i64 0, .int .i64 0, .int .i64 at_, .int .i64 at_, .int .i64 (given + 1)] 64)) ((below_drewN (Below.refl _ _) 1).alloc (Nat.le_refl _) _)
  refine wpAnyC_take0 (i := 0) (k := 14) (v := ?_) (d := some 46) rfl (by rfl) (by as_aux_lemma => kernel_rfl) (by as_aux_lemma => kernel_rfl) (by as_aux_lemma => kernel_rfl) hsh (by decide) (by intro _ _ _ h; exact h) (by assumption) (Or.inl ⟨by rfl, ?hy⟩) ?_; (case hy => (intro W _; go_simp; (try with_reducible rfl))); clear hsh; intro hsh
  refine wpAnyC_take0 (i := 1) (k := 14) (v := ?_) (d := some 47) rfl (by rfl) (by as_aux_lemma => kernel_rfl) (by as_aux_lemma => kernel_rfl) (by as_aux_lemma => kernel_rfl) hsh (by decide) (by intro _ _ _ h; exact h) (by assumption) (Or.inl ⟨by rfl, ?hy⟩) ?_; (case hy => (intro W _; go_simp; (try with_reducible rfl))); clear hsh; intro hsh
  refine wpAnyC_take0 (i := 2) (k := 14) (v := ?_) (d := some 48) rfl (by rfl) (by as_aux_lemma => kernel_rfl) (by as_aux_lemma => kernel_rfl) (by as_aux_lemma => kernel_rfl) hsh (by decide) (by intro _ _ _ h; exact h) (by assumption) (Or.inl ⟨by rfl, ?hy⟩) ?_; (case hy => (intro W _; go_simp; (try with_reducible rfl))); clear hsh; intro hsh
  refine wpAnyC_take0 (i := 3) (k := 14) (v := ?_) (d := some 49) rfl (by rfl) (by as_aux_lemma => kernel_rfl) (by as_aux_lemma => kernel_rfl) (by as_aux_lemma => kernel_rfl) hsh (by decide) (by intro _ _ _ h; exact h) (by assumption) (Or.inl ⟨by rfl, ?hy⟩) ?_; (case hy => (intro W _; go_simp; (try with_reducible rfl))); clear hsh; intro hsh
  refine wpAnyC_take (i := 4) (k := 14) (f := 40) (v := ?_) (d := some 50) rfl (by rfl) (by as_aux_lemma => kernel_rfl) (by as_aux_lemma => kernel_rfl) (by as_aux_lemma => kernel_rfl) hsh (by decide) (by as_aux_lemma => kernel_rfl) (by intro _ _ _ h; exact h) (by assumption) (Or.inl ⟨by rfl, ?hy⟩) ?_; (case hy => (rintro W ⟨b1, b2⟩; go_simp; (try with_reducible rfl))); clear hsh; intro hsh
  refine wpAnyC_take0 (i := 5) (k := 14) (v := ?_) (d := some 51) rfl (by rfl) (by as_aux_lemma => kernel_rfl) (by as_aux_lemma => kernel_rfl) (by as_aux_lemma => kernel_rfl) hsh (by decide) (by intro _ _ _ h; exact h) (by assumption) (Or.inl ⟨by rfl, ?hy⟩) ?_; (case hy => (intro W _; go_simp; (try with_reducible rfl))); clear hsh; intro hsh
  refine wpAnyC_take0 (i := 6) (k := 14) (v := ?_) (d := some 52) rfl (by rfl) (by as_aux_lemma => kernel_rfl) (by as_aux_lemma => kernel_rfl) (by as_aux_lemma => kernel_rfl) hsh (by decide) (by intro _ _ _ h; exact h) (by assumption) (Or.inl ⟨by rfl, ?hy⟩) ?_; (case hy => (intro W _; go_simp; (try with_reducible rfl))); clear hsh; intro hsh
  refine wpAnyC_take0 (i := 7) (k := 14) (v := ?_) (d := some 53) rfl (by rfl) (by as_aux_lemma => kernel_rfl) (by as_aux_lemma => kernel_rfl) (by as_aux_lemma => kernel_rfl) hsh (by decide) (by intro _ _ _ h; exact h) (by assumption) (Or.inl ⟨by rfl, ?hy⟩) ?_; (case hy => (intro W _; go_simp; (try with_reducible rfl))); clear hsh; intro hsh
  refine wpAnyC_take0 (i := 8) (k := 14) (v := ?_) (d := some 54) rfl (by rfl) (by as_aux_lemma => kernel_rfl) (by as_aux_lemma => kernel_rfl) (by as_aux_lemma => kernel_rfl) hsh (by decide) (by intro _ _ _ h; exact h) (by assumption) (Or.inl ⟨by rfl, ?hy⟩) ?_; (case hy => (intro W _; go_simp; (try with_reducible rfl))); clear hsh; intro hsh
  refine wpAnyC_take0 (i := 9) (k := 14) (v := ?_) (d := some 55) rfl (by rfl) (by as_aux_lemma => kernel_rfl) (by as_aux_lemma => kernel_rfl) (by as_aux_lemma => kernel_rfl) hsh (by decide) (by intro _ _ _ h; exact h) (by assumption) (Or.inl ⟨by rfl, ?hy⟩) ?_; (case hy => (intro W _; go_simp; (try with_reducible rfl))); clear hsh; intro hsh
  refine wpAnyC_take0 (i := 10) (k := 14) (v := ?_) (d := some 56) rfl (by rfl) (by as_aux_lemma => kernel_rfl) (by as_aux_lemma => kernel_rfl) (by as_aux_lemma => kernel_rfl) hsh (by decide) (by intro _ _ _ h; exact h) (by assumption) (Or.inl ⟨by rfl, ?hy⟩) ?_; (case hy => (intro W _; go_simp; (try with_reducible rfl))); clear hsh; intro hsh
  refine wpAnyC_take (i := 11) (k := 14) (f := 40) (v := ?_) (d := some 57) rfl (by rfl) (by as_aux_lemma => kernel_rfl) (by as_aux_lemma => kernel_rfl) (by as_aux_lemma => kernel_rfl) hsh (by decide) (by as_aux_lemma => kernel_rfl) (by intro _ _ _ h; exact h) (by assumption) (Or.inl ⟨by rfl, ?hy⟩) ?_; (case hy => (rintro W ⟨b1, b2⟩; go_simp; (try with_reducible rfl))); clear hsh; intro hsh
  refine wpAnyC_take0 (i := 12) (k := 14) (v := ?_) (d := some 58) rfl (by rfl) (by as_aux_lemma => kernel_rfl) (by as_aux_lemma => kernel_rfl) (by as_aux_lemma => kernel_rfl) hsh (by decide) (by intro _ _ _ h; exact h) (by assumption) (Or.inl ⟨by rfl, ?hy⟩) ?_; (case hy => (intro W _; go_simp; (try with_reducible rfl))); clear hsh; intro hsh
  refine wpAnyC_ready (rs := [13]) (by as_aux_lemma => kernel_rfl) (by simp) ?_; refine AllC.cons (i := 13) rfl (by as_aux_lemma => kernel_rfl) hsh (fun K hK => ?_) AllC.nil
  go_simp
  refine hK _ _ (fun _ => HSA) ?_
  clear hK K hsh
  intro hsh
  refine wpAnyC_tail (by as_aux_lemma => kernel_rfl) (by simp) (by as_aux_lemma => kernel_rfl) ?_; simp only [List.drop_succ_cons, List.drop_zero]; clear hsh
  clear HS0 HSA
  go_wp2_with (first | (at_builtin; refine wpList_append_own_at _ rfl (.tmp 50) (.tmp 59) 26 rfl B 64 i0 (.agg #[.string ByteArray.empty, .int .i64 0, .int .i64 0, .int .i64 0, .int .i64 0, .int .i64 0]) 6 56 Tryz.underlying26 hi0 iz0 iz1 iz2 rfl (by decide) (.slice LA lr.length lc) lr.length (lr.flatMap Rr) (by go_simp) (HMA.out.row.alloc _).drew ⟨wa.heap.size, 0, none⟩ 1 1 [.string s, .int .i64 0, .int .i64 0, .int .i64 at_, .int .i64 at_, .int .i64 (given + 1)] (by go_simp) rfl (cells_at _ [.string s, .int .i64 0, .int .i64 0, .int .i64 at_, .int .i64 at_, .int .i64 (given + 1)] _ _ rfl) (by intro u hu; simp at hu; rcases hu with rfl | rfl | rfl | rfl | rfl | rfl <;> rfl) (by unfold maxLen; omega) (by omega) (by simp; omega) ?_; intro v8 w8 hown8 hg8 _ hat8; obtain ⟨A8, c8, rfl⟩ := own_sl hown8; have HST := hide (app_keepR hg8); have hb8 := HST.out _ _ HMA.out.box (fun e => HMA.out.ne e rfl); have z8 : w8.cell? ⟨q, 0, none⟩ = some (.slice LA lr.length lc) := (block_cell hb8 0).trans rfl; have f8 : w8.frozen? ⟨q, 0, none⟩ = false := block_free hb8 0; have HB8 := hide hb8; have HO8 := hide hown8; have HK8 := hide (show Below B wa w8 from (((Below.refl B wa).alloc hza _).drew).grown hg8 (by simp; omega) (fun j hj => (HMA.out.row.lt j hj).1)); have HAT8 := hide hat8; clear hown8 hg8 hat8 hb8))
  obtain ⟨w9, hw9⟩ : ∃ w9, w8.setCell ⟨q, 0, none⟩ (.slice A8 (lr.length + 1) c8) = w9 := ⟨_, rfl⟩
  (try rw [hw9])
  have HB9 := hide (show w9.heap[q]? = some (.cells #[.slice A8 (lr.length + 1) c8, .int .i64 (given + 1), sv] 29 (0, 0)) from hw9 ▸ block_set HB8.out _)
  have hr9 : w9.ownsRow B 64 6 (.slice A8 (lr.length + 1) c8) (lr.length + 1) ((lr ++ [(⟨s.data.toList, given + 1, 0, 0, at_, at_⟩ : Pr)]).flatMap Rr) := by
    rw [← hw9, List.flatMap_append, List.flatMap_singleton]
    exact own_stayB HO8.out fun k o e eo => block_set_other eo _ _ (fun e2 => own_other' HO8.out HB8.out (by decide) (by rw [e, show k = q from e2]))
  have HNE := hide (own_other' hr9 HB9.out (by decide))
  have HST9 := hide (show ∀ j o, wa.heap[j]? = some o → j ≠ q → (Value.slice LA lr.length lc).ownBlock ≠ some j → w9.heap[j]? = some o from fun j o e ne nv => hw9 ▸ block_set_other (HST.out j o e nv) _ _ ne)
  have HK9 := hide (show Below B wa w9 from hw9 ▸ HK8.out.setCell (p := ⟨q, 0, none⟩) HM.out.lo _)
  have hz9 := HK9.out.size
  have HLO9 := hide hr9.lt
  have CS := hide (SortR_n hr9 (by simp) (by omega) (by rw [List.map_append, List.nodup_append]; exact ⟨HU.out.nd, by simp, fun a ha b hb => by simp at hb; subst hb; exact fun e => HS.out (e ▸ ha)⟩))
  clear hr9 z8 f8 HSS
  (try go_wp2_with (fail))
  refine CS.out.mono ?_
  rintro e ws ⟨rfl, ⟨l', hp, hu, hr⟩, hg⟩
  have hl' : l'.length = lr.length + 1 := by rw [hp.length_eq]; simp
  have HM2 := hide (show RM B ws q (.slice A8 (lr.length + 1) c8) (given + 1) sv l' from ⟨(hg.block q (lt_of_block HB9.out) (fun e => HNE.out (by rw [← e]))).trans HB9.out, by rw [hl']; exact hr, HM.out.lo⟩)
  have HG9 := hide hg
  have HP := hide hp
  have HU2 := hide hu
  have HL := hide hl'
  have hzs : w9.heap.size ≤ ws.heap.size := hg.size
  have HFY := hide (fun z (hz : FindR l' s.data.toList z) => find_yes hu.nd hz (hp.symm.subset (List.mem_append_right _ (List.mem_singleton.2 rfl))) (show (⟨s.data.toList, given + 1, 0, 0, at_, at_⟩ : Pr).p = _ from rfl))
  have CF2 := hide (Rfind_any HM2.out (by omega) s)
  clear hr hg hp hu CS CF HFN hl'
  go_wp2_with (first | (go_at_call 27; refine CF2.out.mono ?_; rintro e wf ⟨zk, rfl, hz, hwf⟩; obtain ⟨k, rfl, hka⟩ := HFY.out zk hz; have HKF := hide hka; have HBF := hide hwf; have HMF := hide (HM2.out.below hwf); obtain ⟨g, cap, cur, e0, hgB, hgb, _⟩ := own_blk HMF.out.row (by rw [HL.out]; omega); simp only [Value.slice.injEq] at e0; obtain ⟨rfl, _, rfl⟩ := e0; have HROW := hide (show wf.ownsRow B 64 6 (.slice (some ⟨g, 0, none⟩) (lr.length + 1) c8) (lr.length + 1) (l'.flatMap Rr) from (by have h9 := HMF.out.row; rw [HL.out] at h9; exact h9)); have HQG := hide (HMF.out.ne rfl); have y0 : wf.cell? ⟨q, 0, none⟩ = some (.slice (some ⟨g, 0, none⟩) (lr.length + 1) c8) := (block_cell HMF.out.box 0).trans rfl; have c1 := rr_cell HROW.out hka 1 (by decide) (.int .i64 0) rfl; have c2 := rr_cell HROW.out hka 2 (by decide) (.int .i64 0) rfl; have HF := hide (fun j => own_free HROW.out j); have f1 := HF.out (k * 6 + 1); have f2 := HF.out (k * 6 + 2); have hkl' : (k : Int) < ((lr.length + 1 : Nat) : Int) := (by have := (List.getElem?_eq_some_iff.1 hka).1; have := HL.out; omega); have hkl2 : (k : Int) < (lr.length : Int) + 1 := (by omega); clear hgb hz hwf hka))
  obtain ⟨w6, hw6⟩ : ∃ w6, (wf.setCell ⟨g, k * 6 + 1, none⟩ (.int .i64 1)).setCell ⟨g, k * 6 + 2, none⟩ (.int .i64 wt) = w6 := ⟨_, rfl⟩
  have HR6 := hide (hw6 ▸ rr_set (rr_set HROW.out HKF.out 1 (by decide) (.int .i64 1) ⟨s.data.toList, given + 1, 1, 0, at_, at_⟩ rfl) (set_at HKF.out _) 2 (by decide) (.int .i64 wt) ⟨s.data.toList, given + 1, 1, wt, at_, at_⟩ rfl)
  have HA6 := hide (set_at (set_at HKF.out ⟨s.data.toList, given + 1, 1, 0, at_, at_⟩) ⟨s.data.toList, given + 1, 1, wt, at_, at_⟩)
  have HS0 := hide (show ∀ V, Below w6.heap.size w6 V → (fun V => V.cell? ⟨g, k * 6 + 3, none⟩ = some (.int .i64 at_) ∧ V.cell? ⟨g, k * 6 + 4, none⟩ = some (.int .i64 at_)) V from fun V hb => ⟨rr_cell (own_below HR6.out hb) HA6.out 3 (by decide) _ rfl, rr_cell (own_below HR6.out hb) HA6.out 4 (by decide) _ rfl⟩)
  refine wp_region_chain (fun V => V.cell? ⟨g, k * 6 + 3, none⟩ = some (.int .i64 at_) ∧ V.cell? ⟨g, k * 6 + 4, none⟩ = some (.int .i64 at_)) 14 (by as_aux_lemma => kernel_rfl) (N := 20) (by as_aux_lemma => kernel_rfl) ?_; intro hsh
  rw [hw6]
  have HS9 := HS0.out w6.drew (below_drewN (Below.refl _ _) 1)
  refine wpAnyC_take0 (i := 0) (k := 14) (v := ?_) (d := some 92) rfl (by rfl) (by as_aux_lemma => kernel_rfl) (by as_aux_lemma => kernel_rfl) (by as_aux_lemma => kernel_rfl) hsh (by decide) (by intro _ _ _ h; exact h) (by assumption) (Or.inl ⟨by rfl, ?hy⟩) ?_; (case hy => (intro W _; go_simp; (try with_reducible rfl))); clear hsh; intro hsh
  refine wpAnyC_take0 (i := 1) (k := 14) (v := ?_) (d := some 93) rfl (by rfl) (by as_aux_lemma => kernel_rfl) (by as_aux_lemma => kernel_rfl) (by as_aux_lemma => kernel_rfl) hsh (by decide) (by intro _ _ _ h; exact h) (by assumption) (Or.inl ⟨by rfl, ?hy⟩) ?_; (case hy => (intro W _; go_simp; (try with_reducible rfl))); clear hsh; intro hsh
  refine wpAnyC_take0 (i := 2) (k := 14) (v := ?_) (d := some 94) rfl (by rfl) (by as_aux_lemma => kernel_rfl) (by as_aux_lemma => kernel_rfl) (by as_aux_lemma => kernel_rfl) hsh (by decide) (by intro _ _ _ h; exact h) (by assumption) (Or.inl ⟨by rfl, ?hy⟩) ?_; (case hy => (intro W _; go_simp; (try with_reducible rfl))); clear hsh; intro hsh
  refine wpAnyC_take0 (i := 3) (k := 14) (v := ?_) (d := some 95) rfl (by rfl) (by as_aux_lemma => kernel_rfl) (by as_aux_lemma => kernel_rfl) (by as_aux_lemma => kernel_rfl) hsh (by decide) (by intro _ _ _ h; exact h) (by assumption) (Or.inl ⟨by rfl, ?hy⟩) ?_; (case hy => (intro W _; go_simp; (try with_reducible rfl))); clear hsh; intro hsh
  refine wpAnyC_take0 (i := 4) (k := 14) (v := ?_) (d := some 96) rfl (by rfl) (by as_aux_lemma => kernel_rfl) (by as_aux_lemma => kernel_rfl) (by as_aux_lemma => kernel_rfl) hsh (by decide) (by intro _ _ _ h; exact h) (by assumption) (Or.inl ⟨by rfl, ?hy⟩) ?_; (case hy => (intro W _; go_simp; (try with_reducible rfl))); clear hsh; intro hsh
  refine wpAnyC_take (i := 5) (k := 14) (f := 40) (v := ?_) (d := some 97) rfl (by rfl) (by as_aux_lemma => kernel_rfl) (by as_aux_lemma => kernel_rfl) (by as_aux_lemma => kernel_rfl) hsh (by decide) (by as_aux_lemma => kernel_rfl) (by intro _ _ _ h; exact h) (by assumption) (Or.inl ⟨by rfl, ?hy⟩) ?_; (case hy => (rintro W ⟨a3, a4⟩; go_simp; (try with_reducible rfl))); clear hsh; intro hsh
  refine wpAnyC_take0 (i := 6) (k := 14) (v := ?_) (d := some 98) rfl (by rfl) (by as_aux_lemma => kernel_rfl) (by as_aux_lemma => kernel_rfl) (by as_aux_lemma => kernel_rfl) hsh (by decide) (by intro _ _ _ h; exact h) (by assumption) (Or.inl ⟨by rfl, ?hy⟩) ?_; (case hy => (intro W _; go_simp; (try with_reducible rfl))); clear hsh; intro hsh
  refine wpAnyC_take0 (i := 7) (k := 14) (v := ?_) (d := some 99) rfl (by rfl) (by as_aux_lemma => kernel_rfl) (by as_aux_lemma => kernel_rfl) (by as_aux_lemma => kernel_rfl) hsh (by decide) (by intro _ _ _ h; exact h) (by assumption) (Or.inl ⟨by rfl, ?hy⟩) ?_; (case hy => (intro W _; go_simp; (try with_reducible rfl))); clear hsh; intro hsh
  refine wpAnyC_take0 (i := 8) (k := 14) (v := ?_) (d := some 100) rfl (by rfl) (by as_aux_lemma => kernel_rfl) (by as_aux_lemma => kernel_rfl) (by as_aux_lemma => kernel_rfl) hsh (by decide) (by intro _ _ _ h; exact h) (by assumption) (Or.inl ⟨by rfl, ?hy⟩) ?_; (case hy => (intro W _; go_simp; (try with_reducible rfl))); clear hsh; intro hsh
  refine wpAnyC_take0 (i := 9) (k := 14) (v := ?_) (d := some 101) rfl (by rfl) (by as_aux_lemma => kernel_rfl) (by as_aux_lemma => kernel_rfl) (by as_aux_lemma => kernel_rfl) hsh (by decide) (by intro _ _ _ h; exact h) (by assumption) (Or.inl ⟨by rfl, ?hy⟩) ?_; (case hy => (intro W _; go_simp; (try with_reducible rfl))); clear hsh; intro hsh
  refine wpAnyC_take0 (i := 10) (k := 14) (v := ?_) (d := some 102) rfl (by rfl) (by as_aux_lemma => kernel_rfl) (by as_aux_lemma => kernel_rfl) (by as_aux_lemma => kernel_rfl) hsh (by decide) (by intro _ _ _ h; exact h) (by assumption) (Or.inl ⟨by rfl, ?hy⟩) ?_; (case hy => (intro W _; go_simp; (try with_reducible rfl))); clear hsh; intro hsh
  refine wpAnyC_take (i := 11) (k := 14) (f := 40) (v := ?_) (d := some 103) rfl (by rfl) (by as_aux_lemma => kernel_rfl) (by as_aux_lemma => kernel_rfl) (by as_aux_lemma => kernel_rfl) hsh (by decide) (by as_aux_lemma => kernel_rfl) (by intro _ _ _ h; exact h) (by assumption) (Or.inl ⟨by rfl, ?hy⟩) ?_; (case hy => (rintro W ⟨a3, a4⟩; go_simp; (try with_reducible rfl))); clear hsh; intro hsh
  refine wpAnyC_take0 (i := 12) (k := 14) (v := ?_) (d := some 104) rfl (by rfl) (by as_aux_lemma => kernel_rfl) (by as_aux_lemma => kernel_rfl) (by as_aux_lemma => kernel_rfl) hsh (by decide) (by intro _ _ _ h; exact h) (by assumption) (Or.inl ⟨by rfl, ?hy⟩) ?_; (case hy => (intro W _; go_simp; (try with_reducible rfl))); clear hsh; intro hsh
  refine wpAnyC_take0 (i := 13) (k := 14) (v := ?_) (d := some 105) rfl (by rfl) (by as_aux_lemma => kernel_rfl) (by as_aux_lemma => kernel_rfl) (by as_aux_lemma => kernel_rfl) hsh (by decide) (by intro _ _ _ h; exact h) (by assumption) (Or.inl ⟨by rfl, ?hy⟩) ?_; (case hy => (intro W _; go_simp; (try with_reducible rfl))); clear hsh; intro hsh
  refine wpAnyC_tail (by as_aux_lemma => kernel_rfl) (by simp) (by as_aux_lemma => kernel_rfl) ?_; simp only [List.drop_succ_cons, List.drop_zero]; clear hsh
  go_simp
  have hHF := fun j => own_free HR6.out j
  have g3 := hHF (k * 6 + 3)
  have g4 := hHF (k * 6 + 4)
  have g5 := rr_cell HR6.out HA6.out 5 (by decide) (.int .i64 (given + 1)) rfl
  have g6 := rr_cell HR6.out HA6.out 3 (by decide) (.int .i64 at_) rfl
  have g7 := rr_cell HR6.out HA6.out 4 (by decide) (.int .i64 at_) rfl
  clear hHF
  go_wp2_with (fail)
  refine bodyPost_ret (by simp [results, Tryz.results6, go_sem]; try rfl) rfl ?_
  have hrow := rr_set (rr_set HR6.out HA6.out 3 (by decide) (.int .i64 at_) ⟨s.data.toList, given + 1, 1, wt, at_, at_⟩ rfl) (set_at HA6.out _) 4 (by decide) (.int .i64 at_) ⟨s.data.toList, given + 1, 1, wt, at_, at_⟩ rfl
  rw [List.set_set, List.set_set, List.set_set] at hrow
  have hset : l'.set k ⟨s.data.toList, given + 1, 1, wt, at_, at_⟩ = upP s.data.toList at_ wt l' := by
    have h9 := set_upP HU2.out.nd HKF.out at_ wt
    simp [upR] at h9
    exact h9
  rw [hset] at hrow
  have hln : (upP s.data.toList at_ wt l').length = lr.length + 1 := by rw [upP, List.length_map, HL.out]
  have hst : ∀ i o, wf.heap[i]? = some o → i ≠ g → ((w6.setCell ⟨g, k * 6 + 3, none⟩ (.int .i64 at_)).setCell ⟨g, k * 6 + 4, none⟩ (.int .i64 at_)).drew.heap[i]? = some o := fun i o e ne => by
    rw [← hw6]
    exact block_set_other (block_set_other (block_set_other (block_set_other e _ _ ne) _ _ ne) _ _ ne) _ _ ne
  have hat : (Value.slice LA lr.length lc).ownBlock = some g ∨ wa.heap.size ≤ g := by
    rcases HAT8.out with h | h
    · exact .inl (h ▸ rfl)
    · right
      have h9 := Option.some.inj h
      simp at h9
      omega
  have hko : ∀ i o, wa.heap[i]? = some o → ¬ RK q (.slice LA lr.length lc) i → ((w6.setCell ⟨g, k * 6 + 3, none⟩ (.int .i64 at_)).setCell ⟨g, k * 6 + 4, none⟩ (.int .i64 at_)).drew.heap[i]? = some o := fun i o e ne => by
    have hig : i ≠ g := fun e2 => by
      rcases hat with h | h
      · exact ne (.inr (by rw [e2]; exact h))
      · have := lt_of_block e
        omega
    have e9 := HST9.out i o e (fun e2 => ne (.inl e2)) (fun e2 => ne (.inr e2))
    exact hst i o (block_below ((HG9.out.block i (lt_of_block e9) (fun e2 => hig (by cases e2; rfl))).trans e9) HBF.out) hig
  refine ⟨rfl, ⟨.slice (some ⟨g, 0, none⟩) (lr.length + 1) c8, _, upP_perm_new HS.out HP.out, HU2.out.upP _ at_ wt, ⟨hst q _ HMF.out.box HQG.out.symm, by rw [hln]; exact hrow.drew, HM.out.lo⟩, fun k hk => ?_⟩, ?_⟩
  · have hk9 : g = k := by simpa [Value.ownBlock] using hk
    subst hk9
    rcases hat with h | h
    · exact .inl h
    · right
      have := HKA.out.be.size
      have := HB5.out.size
      omega
  · refine ((Keep.of_below HB5.out hBz).trans HKA.out).trans ⟨?_, hko⟩
    have hb9 : Below B wa wf := (HK9.out.trans (((Below.refl B w9).grown HG9.out (by omega) (fun j hj => (HLO9.out j hj).1)))).trans (HBF.out.mono (by omega))
    rw [← hw6]
    exact ((((hb9.setCell (p := ⟨g, k * 6 + 1, none⟩) hgB _).setCell (p := ⟨g, k * 6 + 2, none⟩) hgB _).setCell (p := ⟨g, k * 6 + 3, none⟩) hgB _).setCell (p := ⟨g, k * 6 + 4, none⟩) hgB _).drew
end Go.Proofs.YtapfcnfmonknjaaGreatDoor.Bk
