/- A box of posts: what a notice does, in memory. -/
import Derived.Test.YtnkccilgbhogbaaDoorBxI
namespace Go.Proofs.YtnkccilgbhogbaaDoor
open Go.RowKit Go.Maps
open Bk (ptE ptV MapK Got ptE_mk wpList_lookup_some wpList_lookup_none)
set_option linter.unusedVariables false
set_option linter.unusedSimpArgs false
/-- The box behind the first j notices. -/
def stA (P : Pln) (s : Bx) (l : List Nt) (j : Nat) : Bx := { s with ps := addL P.mo s.ps (l.take j), put := lastA s.put (l.take j) }
theorem stA_zero (P : Pln) (s : Bx) (l : List Nt) : stA P s l 0 = s := rfl
theorem stA_ps {P : Pln} {s : Bx} {l : List Nt} {j : Nat} {x : Nt} (h : l[j]? = some x) : (stA P s l (j + 1)).ps = addN P.mo (stA P s l j).ps x ∧ (stA P s l (j + 1)).put = x.at_ := by
  refine ⟨?_, lastA_take h⟩
  show addL P.mo s.ps (l.take (j + 1)) = _
  rw [List.take_add_one, h]
  unfold addL
  rw [List.foldl_append]
  rfl
/-- What the loop of Put keeps. -/
def PutR (B : Nat) (P : Pln) (p mb : Nat) (s : Bx) (N : Nat) (F : Nat → Prop) (w : World) (l : List Nt) (j : Nat) (wr : World) : Prop := ∃ (mn : Nat) (D : DataW Unit) (is : List Int) (gk : Int → Nat) (gv : Int → Value) (lv : Value),
  BP B P p mb (stA P s l j) mn D is gk gv lv wr ∧ mn ≤ N + j ∧ Keep B F w wr ∧ ∀ k, FB p mb (stA P s l j) is gk gv lv k → F k ∨ w.heap.size ≤ k
structure PutH (B : Nat) (P : Pln) (s : Bx) (l : List Nt) (F : Nat → Prop) (w : World) : Prop where
  ok : P.ok
  ps : PsOk P s.ps
  lo : ∀ k ∈ s.lo, ∃ x, s.ps[k]? = some x ∧ x.lost = true ∧ x.cl = true
  at_ : ∀ x ∈ l, 0 ≤ x.at_ ∧ x.at_ ≤ 3155759999
  bw : B ≤ w.heap.size
theorem PutH.psj {B : Nat} {P : Pln} {s : Bx} {l : List Nt} {F : Nat → Prop} {w : World} (h : PutH B P s l F w) (j : Nat) : PsOk P (stA P s l j).ps := h.ps.addL h.ok _ fun x hx => h.at_ x (List.mem_of_mem_take hx)
theorem PutH.loj {B : Nat} {P : Pln} {s : Bx} {l : List Nt} {F : Nat → Prop} {w : World} (h : PutH B P s l F w) (j : Nat) : ∀ k ∈ (stA P s l j).lo, ∃ x, (stA P s l j).ps[k]? = some x ∧ x.lost = true ∧ x.cl = true := fun k hk => by
  obtain ⟨x, e1, e2, e3⟩ := h.lo k hk
  exact ⟨x, addL_cl _ e1 e3, e2, e3⟩
theorem keep_on {B : Nat} {F : Nat → Prop} {w wr w' : World} (hk : Keep B F w wr) (hB : Below B wr w') (h : ∀ i o, wr.heap[i]? = some o → i < w.heap.size → ¬ F i → w'.heap[i]? = some o) : Keep B F w w' := ⟨hk.be.trans hB, fun i o e ne => h i o (hk.keep i o e ne) (lt_of_block e) ne⟩
section
variable {B p mb mn N j : Nat} {P : Pln} {s : Bx} {l : List Nt} {F : Nat → Prop} {D : DataW Unit} {is : List Int} {gk : Int → Nat} {gv : Int → Value} {lv v8 : Value} {w wr w' : World} {x : Nt}
theorem put_new (hH : PutH B P s l F w) (hbp : BP B P p mb (stA P s l j) mn D is gk gv lv wr) (hmn : mn ≤ N + j) (hk : Keep B F w wr) (hF : ∀ k, FB p mb (stA P s l j) is gk gv lv k → F k ∨ w.heap.size ≤ k) (hx : l[j]? = some x) (hg : gat (stA P s l j).ps = none) {k : Nat} {L : Nat} (hL : (stA P s l j).ps.length = L)
    (hkk : wr.heap.size ≤ k) {g : Int} (hgd : g = if 1 = P.mo then 0 else (L : Int) + 1)
    (hbox : w'.heap[p]? = some (.cells #[.int .i64 (P.mo : Int), .int .i64 P.wa, .int .i64 P.ag, .int .i64 P.tr, .map (some mb), .int .i64 g, lv, .int .i64 ((L : Int) + 1), .int .i64 x.at_, .int .i64 s.due] 57 (0, 0)))
    (hcell : w'.heap[k]? = some (.cells #[.int .i64 ((L : Int) + 1), v8, .int .i64 0, .int .i64 0] 41 (0, 0))) (hrow : w'.ownsRow B 51 4 v8 1 x.cs) (hv : v8.ownBlock = none ∨ ∃ i, wr.heap.size ≤ i ∧ v8.ownBlock = some i)
    (hmap : w'.ownsMap Tryd.prog 3 ptE mb (mn + 1) (D.put (.int .i64 ((L : Int) + 1)) (.lit (.int .i64 (k : Int))))) (hst : ∀ i o, wr.heap[i]? = some o → i ≠ p → i ≠ mb → w'.heap[i]? = some o) (hB : Below B wr w') : PutR B P p mb s N F w l (j + 1) w' := by
  obtain ⟨e1, e2⟩ := stA_ps (P := P) (s := s) hx
  have hps : (stA P s l (j + 1)).ps = (stA P s l j).ps ++ [newP P.mo x] := by rw [e1]; unfold addN; rw [hg]
  have hgi : gatI ((stA P s l j).ps ++ [newP P.mo x]) = g := by
    unfold gatI
    rw [gat_new hH.ok.m1, hgd]
    by_cases h1 : P.mo = 1
    · rw [if_pos h1, if_pos h1.symm]
    · rw [if_neg h1, if_neg (fun e => h1 e.symm)]
      simp [hL]
  have hBz : B ≤ wr.heap.size := Nat.le_trans hH.bw hk.be.size
  have hnew := hbp.new (s' := stA P s l (j + 1)) (w' := w') (q1 := newP P.mo x) (v1 := v8) (k := k) hps rfl (by simp [newP, Pst.op]) (hH.loj j) hkk hBz (by rw [hL]; exact hmap)
    (by
      rw [hbox]
      unfold boxA
      rw [hps, hgi, e2]
      simp only [List.length_append, List.length_singleton, hL]
      rfl)
    (by rw [hL]; exact hcell) (by simpa [newP] using hrow) hv hst law_i
  have hkz := hk.be.size
  have hno : ∀ i, FB p mb (stA P s l j) is gk gv lv i → i < w.heap.size → F i := fun i hi hl => (hF i hi).resolve_right (by omega)
  refine ⟨mn + 1, _, _, _, _, lv, hnew, by omega, keep_on hk hB fun i o e hl ne => hst i o e (fun e2 => ne (hno i (e2 ▸ .inl rfl) hl)) (fun e2 => ne (hno i (e2 ▸ .inr (.inl rfl)) hl)), fun i hi => ?_⟩
  rcases hi with rfl | rfl | ⟨a, ha, rfl⟩ | ⟨a, qa, hqa, hga, e⟩ | e
  · exact hF _ (.inl rfl)
  · exact hF _ (.inr (.inl rfl))
  · rw [hL] at ha ⊢
    by_cases en : a = (L : Int) + 1
    · rw [en, upd_same]; exact .inr (by omega)
    · rw [upd_other _ _ en]
      have ha' : a ∈ is := by
        rcases List.mem_append.1 ha with h9 | h9
        · exact h9
        · exact absurd (List.mem_singleton.1 h9) en
      exact hF _ (.inr (.inr (.inl ⟨a, ha', rfl⟩)))
  · rw [hL] at e
    by_cases en : a = (L : Int) + 1
    · rw [en, upd_same] at e
      rcases hv with hv | ⟨i2, hi2, hv⟩
      · rw [hv] at e; cases e
      · rw [hv] at e; cases e; exact .inr (by omega)
    · rw [upd_other _ _ en] at e
      have hqa' : atNo (stA P s l j).ps a = some qa := by
        rw [hps] at hqa
        obtain ⟨b1, b2, b3⟩ := atNo_some hqa
        have hlt : (a - 1).toNat < (stA P s l j).ps.length := by
          have := (List.getElem?_eq_some_iff.1 b2).1
          simp at this
          omega
        rw [List.getElem?_append_left hlt] at b2
        unfold atNo
        rw [if_neg (by omega)]
        exact b2
      exact hF _ (.inr (.inr (.inr (.inl ⟨a, qa, hqa', hga, e⟩))))
  · exact hF _ (.inr (.inr (.inr (.inr e))))
theorem put_add (hH : PutH B P s l F w) (hbp : BP B P p mb (stA P s l j) mn D is gk gv lv wr) (hmn : mn ≤ N + j) (hk : Keep B F w wr) (hF : ∀ k, FB p mb (stA P s l j) is gk gv lv k → F k ∨ w.heap.size ≤ k) (hx : l[j]? = some x) {q : Pst} (hg : gat (stA P s l j).ps = some q) {L m : Nat} (hL : (stA P s l j).ps.length = L) (hm : q.nts.length = m)
    {g : Int} (hgd : g = if m + 1 = P.mo then 0 else (L : Int))
    (hbox : w'.heap[p]? = some (.cells #[.int .i64 (P.mo : Int), .int .i64 P.wa, .int .i64 P.ag, .int .i64 P.tr, .map (some mb), .int .i64 g, lv, .int .i64 (L : Int), .int .i64 x.at_, .int .i64 s.due] 57 (0, 0)))
    (hcell : w'.heap[gk (L : Int)]? = some (.cells #[.int .i64 (L : Int), v8, .int .i64 q.tr, .int .i64 q.nx] 41 (0, 0))) (hrow : w'.ownsRow B 51 4 v8 (m + 1) (q.nts.flatMap Nt.cs ++ x.cs)) (hv : v8.ownBlock = (gv (L : Int)).ownBlock ∨ ∃ i, wr.heap.size ≤ i ∧ v8.ownBlock = some i)
    (hst : ∀ i o, wr.heap[i]? = some o → i ≠ p → i ≠ gk (L : Int) → (gv (L : Int)).ownBlock ≠ some i → w'.heap[i]? = some o) (hB : Below B wr w') : PutR B P p mb s N F w l (j + 1) w' := by
  obtain ⟨e1, e2⟩ := stA_ps (P := P) (s := s) hx
  obtain ⟨hqa, hqg⟩ := gat_at hg
  obtain ⟨hq1, hq2, hq3⟩ := gat_some hg
  rw [hL] at hqa hqg
  have hqm := List.mem_of_getElem? hq1
  obtain ⟨hqo, hqn, hqt⟩ := (hH.psj j).un q hqm hq2
  have hLp : 1 ≤ L := by omega
  have hps : (stA P s l (j + 1)).ps = setNo (stA P s l j).ps (L : Int) (addP P.mo q x) := by
    rw [e1]; unfold addN setNo; rw [hg, hL]
    simp only
    congr 1
    omega
  have hps2 : setNo (stA P s l j).ps (L : Int) (addP P.mo q x) = (stA P s l j).ps.set ((stA P s l j).ps.length - 1) (addP P.mo q x) := by unfold setNo; rw [hL]; congr 1; omega
  have hgi : gatI (stA P s l (j + 1)).ps = g := by
    rw [hps, hps2]
    unfold gatI
    rw [gat_add hg, hgd, hm]
    by_cases h1 : m + 1 = P.mo
    · rw [if_pos h1, if_pos h1]
    · rw [if_neg h1, if_neg h1]
      simp [hL]
  have hlen : (stA P s l (j + 1)).ps.length = L := by rw [hps, hps2, List.length_set]; exact hL
  have hin : (L : Int) ∈ is := (hbp.mem _).2 ⟨q, hqa, hqo⟩
  have hgo := (op_not hqo).1
  obtain ⟨pn1, pn2, pn3, pn4⟩ := hbp.pne
  obtain ⟨mn1, mn2, mn3⟩ := hbp.mne
  obtain ⟨rn1, rn2⟩ := hbp.rne hqa hgo
  have hlr : w'.ownsRow B 41 4 lv (stA P s l j).lo.length ((stA P s l j).lo.flatMap (lostC (stA P s l j).ps gv)) := own_stayC hbp.lrow fun i o e eo => hst i o eo (fun e2 => pn4 (by rw [e, e2])) (fun e2 => hbp.lap _ hin (by rw [e, e2])) (fun e2 => by
    rcases rn2 with h9 | h9
    · rw [h9] at e2; cases e2
    · exact h9 (by rw [e, e2]))
  have hnew := hbp.chg (s' := stA P s l (j + 1)) (w' := w') (q1 := addP P.mo q x) (v1 := v8) (lv' := lv) (is' := is) hqa hqo hps (map_stayC hbp.map fun o eo => hst mb o eo pn1.symm (mn1 _ hin) (mn2 _ q hqa hgo)) hbp.mp hbp.nd (fun a => ⟨fun h => ⟨h, fun _ => hqo⟩, fun h => h.1⟩)
    (by rw [hbox]; unfold boxA; rw [hgi, hlen, e2]; rfl) (fun _ => hcell) (fun _ => by show w'.ownsRow B _ 4 v8 (q.nts ++ [x]).length ((q.nts ++ [x]).flatMap Nt.cs); rw [List.length_append, List.length_singleton, hm, List.flatMap_append, List.flatMap_singleton]; exact hrow) hv
    (by show w'.ownsRow B _ 4 lv (stA P s l j).lo.length ((stA P s l j).lo.flatMap (lostC (stA P s l (j + 1)).ps (upd gv (L : Int) v8))); rw [hps, lost_same (hH.loj j) hqa hqo]; exact hlr) hbp.lap (fun i o e h1 _ h3 h4 _ => hst i o e h1 h3 h4)
  have hkz := hk.be.size
  have hno : ∀ i, FB p mb (stA P s l j) is gk gv lv i → i < w.heap.size → F i := fun i hi hl => (hF i hi).resolve_right (by omega)
  refine ⟨mn, _, _, _, _, lv, hnew, by omega, keep_on hk hB fun i o e hl ne => hst i o e (fun e2 => ne (hno i (e2 ▸ .inl rfl) hl)) (fun e2 => ne (hno i (e2 ▸ .inr (.inr (.inl ⟨_, hin, rfl⟩))) hl)) (fun e2 => ne (hno i (.inr (.inr (.inr (.inl ⟨_, q, hqa, hgo, e2⟩)))) hl)), fun i hi => ?_⟩
  rcases hi with rfl | rfl | ⟨a, ha, rfl⟩ | ⟨a, qa, hqa2, hga, e⟩ | e
  · exact hF _ (.inl rfl)
  · exact hF _ (.inr (.inl rfl))
  · exact hF _ (.inr (.inr (.inl ⟨a, ha, rfl⟩)))
  · by_cases en : a = (L : Int)
    · rw [en, upd_same] at e
      rcases hv with hv | ⟨i2, hi2, hv⟩
      · exact hF _ (.inr (.inr (.inr (.inl ⟨_, q, hqa, hgo, by rw [← hv]; exact e⟩))))
      · rw [hv] at e; cases e; exact .inr (by omega)
    · rw [upd_other _ _ en] at e
      rw [hps, atNo_set hqa, if_neg en] at hqa2
      exact hF _ (.inr (.inr (.inr (.inl ⟨a, qa, hqa2, hga, e⟩))))
  · exact hF _ (.inr (.inr (.inr (.inr e))))
end
end Go.Proofs.YtnkccilgbhogbaaDoor
