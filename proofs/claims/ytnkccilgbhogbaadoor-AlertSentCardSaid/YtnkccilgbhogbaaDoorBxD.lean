/- A box of posts: made, asked, told that a post is done. -/
import Derived.Test.YtnkccilgbhogbaaDoorBxPo
import Derived.Test.YtnkccilgbhogbaaDoorAlPln
namespace Go.Proofs.YtnkccilgbhogbaaDoor
open Go.RowKit Go.Maps
open Bk (ptE ptV MapK Got ptE_mk wpList_lookup_some wpList_lookup_none)
set_option linter.unusedVariables false
set_option linter.unusedSimpArgs false
/-- The box lies in w, within the blocks F. -/
def BX (B : Nat) (P : Pln) (p : Nat) (s : Bx) (N : Nat) (F : Nat → Prop) (w : World) : Prop := BxOk P s ∧ ∃ (mb mn : Nat) (D : DataW Unit) (is : List Int) (gk : Int → Nat) (gv : Int → Value) (lv : Value),
  BP B P p mb s mn D is gk gv lv w ∧ mn ≤ N ∧ (∀ k, FB p mb s is gk gv lv k → F k) ∧ ∀ k, F k → B ≤ k ∧ k < w.heap.size
/-- What a deed leaves: the box s', all blocks outside F as they were. -/
def TX (B : Nat) (P : Pln) (p : Nat) (s' : Bx) (N : Nat) (F : Nat → Prop) (w w' : World) : Prop := Keep B F w w' ∧ ∃ F' : Nat → Prop, BX B P p s' N F' w' ∧ ∀ k, F' k → F k ∨ w.heap.size ≤ k
theorem BX.below {B : Nat} {P : Pln} {p : Nat} {s : Bx} {N : Nat} {F : Nat → Prop} {w w' : World} (h : BX B P p s N F w) (hb : Below w.heap.size w w') : BX B P p s N F w' := by
  obtain ⟨h0, mb, mn, D, is, gk, gv, lv, h1, h2, h3, h4⟩ := h
  exact ⟨h0, mb, mn, D, is, gk, gv, lv, h1.below hb, h2, h3, fun k hk => ⟨(h4 k hk).1, Nat.lt_of_lt_of_le (h4 k hk).2 hb.size⟩⟩
theorem BX.keep {B : Nat} {P : Pln} {p : Nat} {s : Bx} {N : Nat} {F G : Nat → Prop} {B' : Nat} {w w' : World} (h : BX B P p s N F w) (hk : Keep B' G w w') (hd : ∀ k, F k → ¬ G k) : BX B P p s N F w' := by
  obtain ⟨h0, mb, mn, D, is, gk, gv, lv, h1, h2, h3, h4⟩ := h
  exact ⟨h0, mb, mn, D, is, gk, gv, lv, h1.keep (fun k o hf e => hk.keep k o e (hd k (h3 k hf))), h2, h3, fun k hk' => ⟨(h4 k hk').1, Nat.lt_of_lt_of_le (h4 k hk').2 hk.be.size⟩⟩
theorem BX.more {B : Nat} {P : Pln} {p : Nat} {s : Bx} {N N' : Nat} {F : Nat → Prop} {w : World} (h : BX B P p s N F w) (hn : N ≤ N') : BX B P p s N' F w := by
  obtain ⟨h0, mb, mn, D, is, gk, gv, lv, h1, h2, h3, h4⟩ := h
  exact ⟨h0, mb, mn, D, is, gk, gv, lv, h1, Nat.le_trans h2 hn, h3, h4⟩
theorem BX.stay {B : Nat} {P : Pln} {p : Nat} {s : Bx} {N : Nat} {F : Nat → Prop} {w w' : World} (h : BX B P p s N F w) (hb : Below w.heap.size w w') (hB : B ≤ w.heap.size) : TX B P p s N F w w' :=
  ⟨Keep.of_below hb hB, F, h.below hb, fun k hk => .inl hk⟩
theorem gat_set {ps : List Pst} {no : Int} {q q1 : Pst} (h : atNo ps no = some q) (hc : q.cl = true) (hc1 : q1.cl = true) : gatI (setNo ps no q1) = gatI ps ∧ (setNo ps no q1).length = ps.length := by
  obtain ⟨h1, h2, h3⟩ := atNo_some h
  have hlt := (List.getElem?_eq_some_iff.1 h2).1
  have hl : (setNo ps no q1).length = ps.length := by unfold setNo; simp
  refine ⟨?_, hl⟩
  have hg : gat (setNo ps no q1) = gat ps := by
    unfold gat
    rw [List.getLast?_eq_getElem?, List.getLast?_eq_getElem?, hl]
    unfold setNo
    by_cases e : (no - 1).toNat = ps.length - 1
    · rw [e, List.getElem?_set_self (by omega), ← e, h2]
      simp [hc, hc1]
    · rw [List.getElem?_set_ne e]
  unfold gatI
  rw [hg, hl]
/-- What is kept of the blocks that may turn. -/
theorem FB_chg {p mb : Nat} {s s' : Bx} {is is' : List Int} {gk : Int → Nat} {gv : Int → Value} {lv lv' v1 : Value} {no0 : Int} {q0 q1 : Pst} {z : Nat} (hq0 : atNo s.ps no0 = some q0) (hg0 : q0.gone = false) (hs : s'.ps = setNo s.ps no0 q1) (his : ∀ no, no ∈ is' → no ∈ is)
    (hv : v1.ownBlock = (gv no0).ownBlock ∨ ∃ k, z ≤ k ∧ v1.ownBlock = some k) (hl : lv'.ownBlock = lv.ownBlock ∨ ∃ k, z ≤ k ∧ lv'.ownBlock = some k) : ∀ k, FB p mb s' is' gk (upd gv no0 v1) lv' k → FB p mb s is gk gv lv k ∨ z ≤ k := by
  rintro k (rfl | rfl | ⟨no, hi, rfl⟩ | ⟨no, q, hq, hg, e⟩ | e)
  · exact .inl (.inl rfl)
  · exact .inl (.inr (.inl rfl))
  · exact .inl (.inr (.inr (.inl ⟨no, his no hi, rfl⟩)))
  · rw [hs, atNo_set hq0] at hq
    by_cases en : no = no0
    · subst en
      rw [upd_same] at e
      rcases hv with hv | ⟨j, hj, hv⟩
      · exact .inl (.inr (.inr (.inr (.inl ⟨no, q0, hq0, hg0, by rw [← hv]; exact e⟩))))
      · rw [hv] at e; cases e; exact .inr hj
    · rw [if_neg en] at hq
      rw [upd_other _ _ en] at e
      exact .inl (.inr (.inr (.inr (.inl ⟨no, q, hq, hg, e⟩))))
  · rcases hl with hl | ⟨j, hj, hl⟩
    · exact .inl (.inr (.inr (.inr (.inr (by rw [← hl]; exact e)))))
    · rw [hl] at e; cases e; exact .inr hj
theorem map_madeX {H : Type} {P : Program} {k : TypeId} {R : Value → Option (DataW H × List MemPlace)} (w : World) (b : Nat) (hb : b = w.heap.size) : (w.alloc (.map #[] 0)).ownsMap P k R b 0 (.map []) := by
  subst hb; exact World.ownsMap_made w P k R
section
variable {B p N : Nat} {P : Pln} {s : Bx} {F : Nat → Prop} {w : World}
set_option maxRecDepth 100000 in
set_option maxHeartbeats 4000000 in
theorem Done_any (hP : P.ok) (h : BX B P p s N F w) {no : Int} (hwf : (Lit.int .i64 no).wf = true) :
    Calls Tryd.prog 14 #[.pointer (some ⟨p, 0, none⟩), .int .i64 no] w fun e w' => e = .returned (.int .i64 (finE s.ps no)) ∧ TX B P p (donS s no) N F w w' := by
  obtain ⟨hok, mb, mn, D, is, gk, gv, lv, hbp, hmn, hF, hFl⟩ := h
  have HBW : B ≤ w.heap.size := by have := hbp.lp; have := lt_of_block hbp.box; omega
  have CC := hide (closed_any hok hbp hwf)
  by_cases hf : finE s.ps no = 0
  · obtain ⟨q, hq, ho, hc⟩ := finE_zero hf
    have hin : no ∈ is := (hbp.mem no).2 ⟨q, hq, ho⟩
    obtain ⟨x0, x1, x2, x3, x4, x5, x6, x7, x8, x9⟩ := hbp.cells
    have HBP := hide hbp
    have HOW := hide hbp.map
    have HEND : Hid (∀ w1, w1.ownsMap Tryd.prog 3 ptE mb mn (D.del (.int .i64 no)) → w.mapTurned w1 mb → TX B P p (donS s no) N F w w1) := hide fun w1 hm ht => by
      have hg := ht.grown
      have hkeep : ∀ k o, w.heap[k]? = some o → k ≠ mb → w1.heap[k]? = some o := fun k o e ne => (hg.block k (lt_of_block e) (fun e2 => ne (by cases e2; rfl))).trans e
      have hs : donS s no = { s with ps := setNo s.ps no { q with gone := true } } := by unfold donS; rw [hq]; simp [hf]
      have hgs := gat_set (q1 := { q with gone := true }) hq hc hc
      obtain ⟨pn1, pn2, pn3, pn4⟩ := hbp.pne
      obtain ⟨mn1, mn2, mn3⟩ := hbp.mne
      have hbx : boxA P (donS s no) mb lv = boxA P s mb lv := by rw [hs]; unfold boxA; simp only [hgs.1, hgs.2]
      have hmem : ∀ a, a ∈ is.erase no ↔ a ≠ no ∧ a ∈ is := fun a => hbp.nd.mem_erase_iff
      have hnew := hbp.chg (s' := donS s no) (w' := w1) (q1 := { q with gone := true }) (v1 := gv no) (lv' := lv) (is' := is.erase no) hq ho (by rw [hs]) hm (MapK.drop hbp.mp Bk.enc_int (hbp.map.tidy law_i) hin hbp.nd) (hbp.nd.erase _)
        (fun a => by rw [hmem]; exact ⟨fun hh => ⟨hh.2, fun e => absurd e hh.1⟩, fun hh => ⟨fun e => by have := hh.2 e; simp [Pst.op] at this, hh.1⟩⟩)
        (by rw [hbx]; exact hkeep _ _ hbp.box pn1) (fun e => by simp [Pst.op] at e) (fun e => by cases e) (.inl rfl)
        (by rw [hs]; show w1.ownsRow B _ 4 lv s.lo.length (s.lo.flatMap (lostC (setNo s.ps no _) (upd gv no (gv no)))); rw [lost_same hok.lo hq ho]; exact own_stayC hbp.lrow fun k o e eo => hkeep k o eo fun e2 => mn3 (by rw [e, e2]))
        (fun a ha => hbp.lap a ((hmem a).1 ha).2) (fun k o e h1 h2 _ _ _ => hkeep k o e h2)
      refine ⟨⟨(Below.refl _ _).grown hg HBW (fun j hj => by cases hj; exact hbp.lm), fun k o e ne => hkeep k o e fun e2 => ne (hF k (e2 ▸ .inr (.inl rfl)))⟩, F, ⟨hok.done no, mb, mn, _, _, gk, _, lv, hnew, hmn, fun k hk => ?_, fun k hk => ⟨(hFl k hk).1, Nat.lt_of_lt_of_le (hFl k hk).2 hg.size⟩⟩, fun k hk => .inl hk⟩
      rcases FB_chg (z := w.heap.size) hq (op_not ho).1 (by rw [hs]) (fun a ha => ((hmem a).1 ha).2) (.inl rfl) (.inl rfl) k hk with h9 | h9
      · exact hF k h9
      · have := hnew.lt hk
        rcases hk with rfl | rfl | ⟨a, ha, rfl⟩ | ⟨a, qa, hqa, hga, e⟩ | e
        · exact hF _ (.inl rfl)
        · exact hF _ (.inr (.inl rfl))
        · exact hF _ (.inr (.inr (.inl ⟨a, ((hmem a).1 ha).2, rfl⟩)))
        · by_cases en : a = no
          · subst en
            rw [upd_same] at e
            exact hF k (.inr (.inr (.inr (.inl ⟨a, q, hq, (op_not ho).1, e⟩))))
          · rw [hs, atNo_set hq, if_neg en] at hqa
            rw [upd_other _ _ en] at e
            exact hF k (.inr (.inr (.inr (.inl ⟨a, qa, hqa, hga, e⟩))))
        · exact hF _ (.inr (.inr (.inr (.inr e))))
    rw [hf] at CC ⊢
    clear hf hq ho hc hin hbp hok hF hFl
    go_enter Tryd.func14, Tryd.ntmps14
    go_wp2_with (first | (go_at_call 37; refine CC.out.mono ?_; rintro e w1 ⟨rfl, hh⟩; obtain rfl := hh) | (at_delete; refine wpList_delete_own _ rfl _ _ 55 3 rfl 63 law_i Tryd.underlying55 _ mb mn D rfl HOW.out (.int .i64 no) _ rfl (key_w hwf) ?_; intro w1 hown1 hturn1; have HE := hide (HEND.out w1 hown1 hturn1); clear hown1 hturn1))
    go_ret
    exact ⟨rfl, HE.out⟩
  · have hs : donS s no = s := by
      unfold donS
      cases atNo s.ps no with
      | none => rfl
      | some q => simp [hf]
    have HX := hide (show TX B P p (donS s no) N F w w from by rw [hs]; exact BX.stay ⟨hok, mb, mn, D, is, gk, gv, lv, hbp, hmn, hF, hFl⟩ (Below.refl _ _) HBW)
    obtain ⟨x, hx⟩ : ∃ x, finE s.ps no = x := ⟨_, rfl⟩
    rw [hx] at CC hf ⊢
    have hf' : (x == 0) = false := by simpa using hf
    clear hx hs hbp hok hF hFl
    go_enter Tryd.func14, Tryd.ntmps14
    go_wp2_with (first | (go_at_call 37; refine CC.out.mono ?_; rintro e w1 ⟨rfl, hh⟩; obtain rfl := hh))
    go_ret
    exact ⟨rfl, HX.out⟩
set_option maxRecDepth 100000 in
set_option maxHeartbeats 4000000 in
theorem Open_any (hP : P.ok) (h : BX B P p s N F w) : Calls Tryd.prog 18 #[.pointer (some ⟨p, 0, none⟩)] w fun e w' => PsA Pst.op s e w w' := by
  obtain ⟨hok, mb, mn, D, is, gk, gv, lv, hbp, hmn, hF, hFl⟩ := h
  have CP := hide (postsO_any hP hok hbp)
  clear hok hbp hF hFl
  go_enter Tryd.func18, Tryd.ntmps18
  go_wp2_with (first | (go_at_call 33; refine CP.out.mono ?_; rintro e w1 ⟨v, es, rfl, hb1, hpo, heq⟩; have HB1 := hide hb1; have HPO := hide hpo; have HEQ := hide heq; clear hb1 hpo heq))
  go_ret
  exact ⟨v, es, rfl, HB1.out, HPO.out, HEQ.out⟩
end
end Go.Proofs.YtnkccilgbhogbaaDoor
