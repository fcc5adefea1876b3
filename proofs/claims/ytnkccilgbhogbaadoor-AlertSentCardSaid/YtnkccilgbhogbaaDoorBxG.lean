/- A box of posts: what failing does, in memory. -/
import Derived.Test.YtnkccilgbhogbaaDoorBxF
namespace Go.Proofs.YtnkccilgbhogbaaDoor
open Go.RowKit Go.Maps
open Bk (ptE ptV MapK Got ptE_mk wpList_lookup_some wpList_lookup_none)
set_option linter.unusedVariables false
set_option linter.unusedSimpArgs false
section
variable {B p N mb mn : Nat} {P : Pln} {s : Bx} {F : Nat → Prop} {w w' : World} {D : DataW Unit} {is : List Int} {gk : Int → Nat} {gv : Int → Value} {lv : Value} {no t : Int} {q : Pst}
theorem fai_ok (hq : atNo s.ps no = some q) (hf : finE s.ps no = 0) (ht : timE s.due t = 0) : faiE s no t = 0 := by unfold faiE; rw [if_neg (by simp [hf])]; exact ht
/-- The post is tried again. -/
theorem end_retry (hok : BxOk P s) (hP : P.ok) (hbp : BP B P p mb s mn D is gk gv lv w) (hmn : mn ≤ N) (hF : ∀ k, FB p mb s is gk gv lv k → F k) (hFl : ∀ k, F k → B ≤ k ∧ k < w.heap.size) (hq : atNo s.ps no = some q) (ho : q.op = true) (hc : q.cl = true) (hf : finE s.ps no = 0) (ht : timE s.due t = 0) (hlt : q.tr + 1 < P.tr)
    (hbox : w'.heap[p]? = some (.cells (boxA P { s with due := t } mb lv) 57 (0, 0))) (hcell : w'.heap[gk no]? = some (.cells #[.int .i64 no, gv no, .int .i64 (q.tr + 1), .int .i64 (min (t + waitN P.ag q.tr) 3155759999)] 41 (0, 0)))
    (hst : ∀ j o, w.heap[j]? = some o → j ≠ p → j ≠ gk no → w'.heap[j]? = some o) (hB : Below B w w') : TX B P p (faiS P s no t) N F w w' := by
  obtain ⟨q1, hq1⟩ : ∃ q1 : Pst, { q with tr := q.tr + 1, nx := min (t + waitN P.ag q.tr) 3155759999 } = q1 := ⟨_, rfl⟩
  have hfe := fai_ok hq hf ht
  have hs : faiS P s no t = { s with due := t, ps := setNo s.ps no q1 } := by unfold faiS; rw [hq]; simp only; rw [if_neg (by simp [hfe]), if_pos hlt, hq1]
  have ho1 : q1.op = true := by rw [← hq1]; exact ho
  have hc1 : q1.cl = true := by rw [← hq1]; exact hc
  have hgs := gat_set (q1 := q1) hq hc hc1
  have hin : no ∈ is := (hbp.mem no).2 ⟨q, hq, ho⟩
  obtain ⟨pn1, pn2, pn3, pn4⟩ := hbp.pne
  obtain ⟨mn1, mn2, mn3⟩ := hbp.mne
  have hgo := (op_not ho).1
  obtain ⟨rn1, rn2⟩ := hbp.rne hq hgo
  have hbx : boxA P (faiS P s no t) mb lv = boxA P { s with due := t } mb lv := by rw [hs]; unfold boxA; simp only [hgs.1, hgs.2]
  have hrow : w'.ownsRow B 51 4 (gv no) q.nts.length (q.nts.flatMap Nt.cs) := own_stayC (hbp.row no q hq hgo) fun j o e eo => hst j o eo (fun e2 => pn3 no q hq hgo (by rw [e, e2])) (fun e2 => rn1 no hin (by rw [e, e2]))
  have hlr : w'.ownsRow B 41 4 lv s.lo.length (s.lo.flatMap (lostC s.ps gv)) := own_stayC hbp.lrow fun j o e eo => hst j o eo (fun e2 => pn4 (by rw [e, e2])) (fun e2 => hbp.lap no hin (by rw [e, e2]))
  have hnew := hbp.chg (s' := faiS P s no t) (w' := w') (q1 := q1) (v1 := gv no) (lv' := lv) (is' := is) hq ho (by rw [hs]) (map_stayC hbp.map fun o eo => hst mb o eo pn1.symm (mn1 no hin)) hbp.mp hbp.nd (fun a => ⟨fun h => ⟨h, fun _ => ho1⟩, fun h => h.1⟩)
    (by rw [hbx]; exact hbox) (fun _ => by rw [hcell, ← hq1]; rfl) (fun _ => by rw [← hq1]; exact hrow) (.inl rfl) (by rw [hs]; show w'.ownsRow B _ 4 lv s.lo.length (s.lo.flatMap (lostC (setNo s.ps no q1) (upd gv no (gv no)))); rw [lost_same hok.lo hq ho]; exact hlr) hbp.lap
    (fun j o e h1 _ h3 _ _ => hst j o e h1 h3)
  refine ⟨⟨hB, fun j o e ne => hst j o e (fun e2 => ne (hF j (e2 ▸ .inl rfl))) (fun e2 => ne (hF j (e2 ▸ .inr (.inr (.inl ⟨no, hin, rfl⟩)))))⟩, F, ⟨hok.fail hP no t, mb, mn, _, _, gk, _, lv, hnew, hmn, fun j hj => ?_, fun j hj => ⟨(hFl j hj).1, Nat.lt_of_lt_of_le (hFl j hj).2 hB.size⟩⟩, fun j hj => .inl hj⟩
  rcases hj with rfl | rfl | ⟨a, ha, rfl⟩ | ⟨a, qa, hqa, hga, e⟩ | e
  · exact hF _ (.inl rfl)
  · exact hF _ (.inr (.inl rfl))
  · exact hF _ (.inr (.inr (.inl ⟨a, ha, rfl⟩)))
  · by_cases en : a = no
    · subst en
      rw [upd_same] at e
      exact hF j (.inr (.inr (.inr (.inl ⟨a, q, hq, hgo, e⟩))))
    · rw [hs, atNo_set hq, if_neg en] at hqa
      rw [upd_other _ _ en] at e
      exact hF j (.inr (.inr (.inr (.inl ⟨a, qa, hqa, hga, e⟩))))
  · exact hF _ (.inr (.inr (.inr (.inr e))))
/-- The post is lost. -/
theorem end_lose {lv' : Value} (hok : BxOk P s) (hP : P.ok) (hbp : BP B P p mb s mn D is gk gv lv w) (hmn : mn ≤ N) (hF : ∀ k, FB p mb s is gk gv lv k → F k) (hFl : ∀ k, F k → B ≤ k ∧ k < w.heap.size) (hq : atNo s.ps no = some q) (ho : q.op = true) (hc : q.cl = true) (hf : finE s.ps no = 0) (ht : timE s.due t = 0) (hlt : ¬ q.tr + 1 < P.tr)
    (hbox : w'.heap[p]? = some (.cells (boxA P { s with due := t } mb lv') 57 (0, 0))) (hmap : w'.ownsMap Tryd.prog 3 ptE mb mn (D.del (.int .i64 no)))
    (hlr : w'.ownsRow B 41 4 lv' (s.lo.length + 1) (s.lo.flatMap (lostC s.ps gv) ++ [.int .i64 no, gv no, .int .i64 (q.tr + 1), .int .i64 q.nx])) (hv : lv'.ownBlock = lv.ownBlock ∨ ∃ k, w.heap.size ≤ k ∧ lv'.ownBlock = some k)
    (hst : ∀ j o, w.heap[j]? = some o → j ≠ p → j ≠ mb → j ≠ gk no → lv.ownBlock ≠ some j → w'.heap[j]? = some o) (hB : Below B w w') : TX B P p (faiS P s no t) N F w w' := by
  obtain ⟨q1, hq1⟩ : ∃ q1 : Pst, { q with tr := q.tr + 1, lost := true } = q1 := ⟨_, rfl⟩
  have hfe := fai_ok hq hf ht
  have hs : faiS P s no t = { s with due := t, ps := setNo s.ps no q1, lo := s.lo ++ [(no - 1).toNat] } := by unfold faiS; rw [hq]; simp only; rw [if_neg (by simp [hfe]), if_neg hlt, hq1]
  have ho1 : q1.op = false := by rw [← hq1]; simp [Pst.op]
  have hc1 : q1.cl = true := by rw [← hq1]; exact hc
  have hg1 : q1.gone = false := by rw [← hq1]; exact (op_not ho).1
  have hgs := gat_set (q1 := q1) hq hc hc1
  have hin : no ∈ is := (hbp.mem no).2 ⟨q, hq, ho⟩
  obtain ⟨pn1, pn2, pn3, pn4⟩ := hbp.pne
  obtain ⟨mn1, mn2, mn3⟩ := hbp.mne
  have hgo := (op_not ho).1
  obtain ⟨rn1, rn2⟩ := hbp.rne hq hgo
  have hmem : ∀ a, a ∈ is.erase no ↔ a ≠ no ∧ a ∈ is := fun a => hbp.nd.mem_erase_iff
  have hbx : boxA P (faiS P s no t) mb lv' = boxA P { s with due := t } mb lv' := by rw [hs]; unfold boxA; simp only [hgs.1, hgs.2]
  have hrow : w'.ownsRow B 51 4 (gv no) q.nts.length (q.nts.flatMap Nt.cs) := own_stayC (hbp.row no q hq hgo) fun j o e eo => hst j o eo (fun e2 => pn3 no q hq hgo (by rw [e, e2])) (fun e2 => mn2 no q hq hgo (by rw [e, e2])) (fun e2 => rn1 no hin (by rw [e, e2])) (fun e2 => by
    rcases rn2 with h9 | h9
    · rw [h9] at e; cases e
    · exact h9 (by rw [e, e2]))
  obtain ⟨a1, a2, a3⟩ := atNo_some hq
  have hno : (((no - 1).toNat : Nat) : Int) + 1 = no := by omega
  have hlc : lostC (setNo s.ps no q1) (upd gv no (gv no)) (no - 1).toNat = [.int .i64 no, gv no, .int .i64 (q.tr + 1), .int .i64 q.nx] := by
    rw [lostC_at, hno, atNo_set hq, if_pos rfl, upd_same, ← hq1]
  have hnew := hbp.chg (s' := faiS P s no t) (w' := w') (q1 := q1) (v1 := gv no) (lv' := lv') (is' := is.erase no) hq ho (by rw [hs]) hmap (MapK.drop hbp.mp Bk.enc_int (hbp.map.tidy law_i) hin hbp.nd) (hbp.nd.erase _)
    (fun a => by rw [hmem]; exact ⟨fun hh => ⟨hh.2, fun e => absurd e hh.1⟩, fun hh => ⟨fun e => (by have := hh.2 e; rw [ho1] at this; cases this), hh.1⟩⟩)
    (by rw [hbx]; exact hbox) (fun e => (by rw [ho1] at e; cases e)) (fun _ => by rw [← hq1]; exact hrow) (.inl rfl)
    (by rw [hs]; show w'.ownsRow B _ 4 lv' (s.lo ++ [(no - 1).toNat]).length ((s.lo ++ [(no - 1).toNat]).flatMap (lostC (setNo s.ps no q1) (upd gv no (gv no)))); rw [List.length_append, List.length_singleton, List.flatMap_append, List.flatMap_singleton, hlc, lost_same hok.lo hq ho]; exact hlr)
    (fun a ha => by
      have ha' := ((hmem a).1 ha).2
      rcases hv with hv | ⟨k, hk, hv⟩
      · rw [hv]; exact hbp.lap a ha'
      · rw [hv]
        intro e
        obtain ⟨qa, hqa, _⟩ := (hbp.mem a).1 ha'
        have := lt_of_block (hbp.cell a qa ha' hqa)
        cases e
        omega)
    (fun j o e h1 h2 h3 _ h5 => hst j o e h1 h2 h3 h5)
  refine ⟨⟨hB, fun j o e ne => hst j o e (fun e2 => ne (hF j (e2 ▸ .inl rfl))) (fun e2 => ne (hF j (e2 ▸ .inr (.inl rfl)))) (fun e2 => ne (hF j (e2 ▸ .inr (.inr (.inl ⟨no, hin, rfl⟩))))) (fun e2 => ne (hF j (.inr (.inr (.inr (.inr e2))))))⟩, fun k => F k ∨ (w.heap.size ≤ k ∧ k < w'.heap.size), ⟨hok.fail hP no t, mb, mn, _, _, gk, _, lv', hnew, hmn, fun j hj => ?_, fun j hj => ?_⟩, fun j hj => hj.imp id fun h => h.1⟩
  · have hjl := hnew.lt hj
    rcases hj with rfl | rfl | ⟨a, ha, rfl⟩ | ⟨a, qa, hqa, hga, e⟩ | e
    · exact .inl (hF _ (.inl rfl))
    · exact .inl (hF _ (.inr (.inl rfl)))
    · exact .inl (hF _ (.inr (.inr (.inl ⟨a, ((hmem a).1 ha).2, rfl⟩))))
    · by_cases en : a = no
      · subst en
        rw [upd_same] at e
        exact .inl (hF j (.inr (.inr (.inr (.inl ⟨a, q, hq, hgo, e⟩)))))
      · rw [hs, atNo_set hq, if_neg en] at hqa
        rw [upd_other _ _ en] at e
        exact .inl (hF j (.inr (.inr (.inr (.inl ⟨a, qa, hqa, hga, e⟩)))))
    · rcases hv with hv | ⟨k, hk, hv⟩
      · exact .inl (hF _ (.inr (.inr (.inr (.inr (by rw [← hv]; exact e))))))
      · rw [hv] at e; cases e; exact .inr ⟨hk, hjl⟩
  · rcases hj with hj | hj
    · exact ⟨(hFl j hj).1, Nat.lt_of_lt_of_le (hFl j hj).2 hB.size⟩
    · have := hbp.lp
      have := lt_of_block hbp.box
      exact ⟨by omega, hj.2⟩
end
end Go.Proofs.YtnkccilgbhogbaaDoor
