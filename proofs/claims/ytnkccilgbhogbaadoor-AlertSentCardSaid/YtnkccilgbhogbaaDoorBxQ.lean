/- A box of posts in memory: how it turns. -/
import Derived.Test.YtnkccilgbhogbaaDoorBxP
namespace Go.Proofs.YtnkccilgbhogbaaDoor
open Go.RowKit Go.Maps
open Bk (ptE ptV MapK Got ptE_mk)
set_option linter.unusedVariables false
set_option linter.unusedSimpArgs false
theorem atNo_set {ps : List Pst} {no a : Int} {p q : Pst} (h : atNo ps no = some p) : atNo (setNo ps no q) a = if a = no then some q else atNo ps a := by
  obtain ⟨h1, h2, h3⟩ := atNo_some h
  have hlt := (List.getElem?_eq_some_iff.1 h2).1
  unfold atNo setNo
  by_cases e : a = no
  · subst e
    rw [if_pos rfl, if_neg (by omega), List.getElem?_set_self hlt]
  · rw [if_neg e]
    by_cases e1 : a < 1
    · rw [if_pos e1, if_pos e1]
    · rw [if_neg e1, if_neg e1, List.getElem?_set_ne (by omega)]
theorem atNo_nat {ps : List Pst} (k : Nat) : atNo ps ((k : Int) + 1) = ps[k]? := by
  unfold atNo
  rw [if_neg (by omega), show ((k : Int) + 1 - 1).toNat = k by omega]
theorem lostC_at {ps : List Pst} {gv : Int → Value} {k : Nat} : lostC ps gv k = match atNo ps ((k : Int) + 1) with
  | none => [.int .i64 0, .slice none 0 0, .int .i64 0, .int .i64 0]
  | some p => [.int .i64 ((k : Int) + 1), gv ((k : Int) + 1), .int .i64 p.tr, .int .i64 p.nx] := by rw [atNo_nat]; rfl
theorem lostC_len (ps : List Pst) (gv : Int → Value) (k : Nat) : (lostC ps gv k).length = 4 := by unfold lostC; cases ps[k]? <;> rfl
/-- The row of lost posts does not see an open post turn. -/
theorem lost_same {s : Bx} {no : Int} {p q : Pst} {gv : Int → Value} {v : Value} (hlo : ∀ k ∈ s.lo, ∃ x, s.ps[k]? = some x ∧ x.lost = true ∧ x.cl = true) (h : atNo s.ps no = some p) (ho : p.op = true) :
    s.lo.flatMap (lostC (setNo s.ps no q) (upd gv no v)) = s.lo.flatMap (lostC s.ps gv) := by
  rw [List.flatMap_def, List.flatMap_def]
  congr 1
  refine List.map_congr_left fun k hk => ?_
  obtain ⟨x, e1, e2, _⟩ := hlo k hk
  have hne : (k : Int) + 1 ≠ no := fun e => by
    rw [← e, atNo_nat, e1] at h
    cases h
    rw [(op_not ho).2] at e2; cases e2
  rw [lostC_at, lostC_at, atNo_set h, if_neg hne, upd_other _ _ hne]
section
variable {B p mb mn : Nat} {P : Pln} {s s' : Bx} {D D' : DataW Unit} {is is' : List Int} {gk : Int → Nat} {gv : Int → Value} {lv lv' v1 : Value} {w w' : World} {no0 : Int} {q0 q1 : Pst}
/-- One open post turns. -/
theorem BP.chg (h : BP B P p mb s mn D is gk gv lv w) (hq0 : atNo s.ps no0 = some q0) (ho0 : q0.op = true) (hs : s'.ps = setNo s.ps no0 q1)
    (hmap : w'.ownsMap Tryd.prog 3 ptE mb mn D') (hmp : MapK (Lit.int .i64) is' gk D') (hnd : is'.Nodup) (his : ∀ no, no ∈ is' ↔ (no ∈ is ∧ (no = no0 → q1.op = true)))
    (hbox : w'.heap[p]? = some (.cells (boxA P s' mb lv') 57 (0, 0))) (hcell : q1.op = true → w'.heap[gk no0]? = some (.cells (pstA no0 v1 q1) 41 (0, 0)))
    (hrow : q1.gone = false → w'.ownsRow B 51 4 v1 q1.nts.length (q1.nts.flatMap Nt.cs)) (hv : v1.ownBlock = (gv no0).ownBlock ∨ ∃ k, w.heap.size ≤ k ∧ v1.ownBlock = some k)
    (hlrow : w'.ownsRow B 41 4 lv' s'.lo.length (s'.lo.flatMap (lostC s'.ps (upd gv no0 v1)))) (hlap : ∀ no, no ∈ is' → lv'.ownBlock ≠ some (gk no))
    (ho : ∀ k o, w.heap[k]? = some o → k ≠ p → k ≠ mb → k ≠ gk no0 → (gv no0).ownBlock ≠ some k → lv.ownBlock ≠ some k → w'.heap[k]? = some o) : BP B P p mb s' mn D' is' gk (upd gv no0 v1) lv' w' := by
  have hin0 : no0 ∈ is := (h.mem no0).2 ⟨q0, hq0, ho0⟩
  have hat : ∀ a, atNo s'.ps a = if a = no0 then some q1 else atNo s.ps a := fun a => by rw [hs]; exact atNo_set hq0
  have hg0 : q0.gone = false := (op_not ho0).1
  obtain ⟨pn1, pn2, pn3, pn4⟩ := h.pne
  obtain ⟨mn1, mn2, mn3⟩ := h.mne
  have hrest : ∀ a qa, atNo s.ps a = some qa → qa.gone = false → a ≠ no0 → ∀ k o, (gv a).ownBlock = some k → w.heap[k]? = some o → w'.heap[k]? = some o := fun a qa ha hga hne k o e eo => by
    obtain ⟨r1, r2⟩ := h.rne ha hga
    refine ho k o eo (fun e2 => ?_) (fun e2 => ?_) (fun e2 => ?_) (fun e2 => ?_) (fun e2 => ?_)
    · exact pn3 a qa ha hga (by rw [e, e2])
    · exact mn2 a qa ha hga (by rw [e, e2])
    · exact r1 no0 hin0 (by rw [e, e2])
    · rcases h.apart a no0 qa q0 ha hq0 hga hg0 hne with h9 | h9
      · rw [h9] at e; cases e
      · exact h9 (by rw [e, e2])
    · rcases r2 with h9 | h9
      · rw [h9] at e; cases e
      · exact h9 (by rw [e, e2])
  have hnew : ∀ a qa, atNo s.ps a = some qa → qa.gone = false → a ≠ no0 → (gv a).ownBlock = none ∨ (gv a).ownBlock ≠ v1.ownBlock := fun a qa ha hga hne => by
    rcases hv with hv | ⟨k, hk, hv⟩
    · rw [hv]; exact h.apart a no0 qa q0 ha hq0 hga hg0 hne
    · cases e5 : (gv a).ownBlock with
      | none => exact .inl rfl
      | some x => exact .inr fun e6 => by rw [hv] at e6; cases e6; have := ((h.row a qa ha hga).lt _ e5).2; omega
  refine ⟨hbox, hmap, hmp, hnd, fun no => ?_, fun no q hi hq => ?_, fun no q hq hg => ?_, fun a b ha hb e => h.inj a b ((his a).1 ha).1 ((his b).1 hb).1 e, fun a b qa qb ha hb hga hgb hne => ?_, hlrow, hlap, h.lp, h.lm, fun no hi => h.lk no ((his no).1 hi).1⟩
  · rw [his, hat, h.mem]
    by_cases e : no = no0
    · subst e
      rw [if_pos rfl]
      constructor
      · rintro ⟨_, h2⟩; exact ⟨q1, rfl, h2 rfl⟩
      · rintro ⟨q, e1, e2⟩; cases e1; exact ⟨⟨q0, hq0, ho0⟩, fun _ => e2⟩
    · rw [if_neg e]
      exact ⟨fun h1 => h1.1, fun h1 => ⟨h1, fun e2 => absurd e2 e⟩⟩
  · rw [hat] at hq
    obtain ⟨hi1, hi2⟩ := (his no).1 hi
    by_cases e : no = no0
    · subst e
      rw [if_pos rfl] at hq
      cases hq
      rw [upd_same]
      exact hcell (hi2 rfl)
    · rw [if_neg e] at hq
      rw [upd_other _ _ e]
      have h9 := h.cell no q hi1 hq
      exact ho _ _ h9 (fun e2 => pn2 no hi1 e2.symm) (fun e2 => mn1 no hi1 e2.symm) (fun e2 => e (h.inj no no0 hi1 hin0 e2)) (fun e2 => (h.rne hq0 hg0).1 no hi1 e2) (fun e2 => h.lap no hi1 e2)
  · rw [hat] at hq
    by_cases e : no = no0
    · subst e
      rw [if_pos rfl] at hq
      cases hq
      rw [upd_same]
      exact hrow hg
    · rw [if_neg e] at hq
      rw [upd_other _ _ e]
      exact own_stayC (h.row no q hq hg) (hrest no q hq hg e)
  · rw [hat] at ha hb
    by_cases ea : a = no0
    · subst ea
      have eb : b ≠ a := fun e => hne e.symm
      rw [if_neg eb] at hb
      rw [upd_same, upd_other _ _ eb]
      rcases hnew b qb hb hgb eb with h5 | h5
      · cases e6 : v1.ownBlock with
        | none => exact .inl rfl
        | some x => exact .inr (by rw [h5]; simp)
      · exact .inr (Ne.symm h5)
    · rw [if_neg ea] at ha
      rw [upd_other _ _ ea]
      by_cases eb : b = no0
      · subst eb
        rw [upd_same]
        exact hnew a qa ha hga ea
      · rw [if_neg eb] at hb
        rw [upd_other _ _ eb]
        exact h.apart a b qa qb ha hb hga hgb hne
/-- Posts alike but for being closed. -/
def SameP (a b : Pst) : Prop := b.nts = a.nts ∧ b.tr = a.tr ∧ b.nx = a.nx ∧ b.gone = a.gone ∧ b.lost = a.lost
structure SamePs (ps ps' : List Pst) : Prop where
  len : ps'.length = ps.length
  at_ : ∀ (k : Nat) (p : Pst), ps[k]? = some p → ∃ p', ps'[k]? = some p' ∧ SameP p p'
theorem SamePs.refl (ps : List Pst) : SamePs ps ps := ⟨rfl, fun k p h => ⟨p, h, rfl, rfl, rfl, rfl, rfl⟩⟩
theorem SamePs.no {ps ps' : List Pst} (h : SamePs ps ps') (no : Int) : (∀ p, atNo ps no = some p → ∃ p', atNo ps' no = some p' ∧ SameP p p') ∧ (∀ p', atNo ps' no = some p' → ∃ p, atNo ps no = some p ∧ SameP p p') := by
  have h1 : ∀ p, atNo ps no = some p → ∃ p', atNo ps' no = some p' ∧ SameP p p' := fun p hp => by
    obtain ⟨a, b, c⟩ := atNo_some hp
    obtain ⟨p', e1, e2⟩ := h.at_ _ p b
    exact ⟨p', by unfold atNo; rw [if_neg (by omega)]; exact e1, e2⟩
  refine ⟨h1, fun p' hp' => ?_⟩
  obtain ⟨a, b, c⟩ := atNo_some hp'
  have hlt := (List.getElem?_eq_some_iff.1 b).1
  rw [h.len] at hlt
  obtain ⟨p, hp⟩ : ∃ p, ps[(no - 1).toNat]? = some p := ⟨_, List.getElem?_eq_getElem hlt⟩
  have hp2 : atNo ps no = some p := by unfold atNo; rw [if_neg (by omega)]; exact hp
  obtain ⟨p2, e1, e2⟩ := h1 p hp2
  rw [hp'] at e1
  cases e1
  exact ⟨p, hp2, e2⟩
theorem SamePs.close {ps : List Pst} (wa t : Int) : SamePs ps (clP wa t ps) := by
  unfold clP
  cases hg : gat ps with
  | none => exact SamePs.refl ps
  | some q =>
    simp only
    split
    · obtain ⟨h1, h2, h3⟩ := gat_some hg
      refine ⟨by simp, fun k p h => ?_⟩
      by_cases e : ps.length - 1 = k
      · subst e
        rw [h1] at h
        cases h
        exact ⟨_, List.getElem?_set_self (by omega), rfl, rfl, rfl, rfl, rfl⟩
      · exact ⟨p, by rw [List.getElem?_set_ne e]; exact h, rfl, rfl, rfl, rfl, rfl⟩
    · exact SamePs.refl ps
/-- The box's own block turns. -/
theorem BP.turn (h : BP B P p mb s mn D is gk gv lv w) (e : SamePs s.ps s'.ps) (hlo : s'.lo = s.lo) (hbox : w'.heap[p]? = some (.cells (boxA P s' mb lv) 57 (0, 0))) (ho : ∀ k o, w.heap[k]? = some o → k ≠ p → w'.heap[k]? = some o) :
    BP B P p mb s' mn D is gk gv lv w' := by
  obtain ⟨pn1, pn2, pn3, pn4⟩ := h.pne
  refine ⟨hbox, map_stayC h.map fun o eo => ho mb o eo pn1.symm, h.mp, h.nd, fun no => ?_, fun no q hi hq => ?_, fun no q hq hg => ?_, h.inj, fun a b qa qb ha hb hga hgb hne => ?_, ?_, h.lap, h.lp, h.lm, h.lk⟩
  · rw [h.mem]
    constructor
    · rintro ⟨q, hq, hq2⟩
      obtain ⟨q', e1, e2, e3, e4, e5, e6⟩ := (e.no no).1 q hq
      exact ⟨q', e1, by unfold Pst.op at hq2 ⊢; rw [e5, e6]; exact hq2⟩
    · rintro ⟨q', hq, hq2⟩
      obtain ⟨q, e1, e2, e3, e4, e5, e6⟩ := (e.no no).2 q' hq
      exact ⟨q, e1, by unfold Pst.op at hq2 ⊢; rw [← e5, ← e6]; exact hq2⟩
  · obtain ⟨q0, e1, e2, e3, e4, e5, e6⟩ := (e.no no).2 q hq
    have h9 := h.cell no q0 hi e1
    have h8 : pstA no (gv no) q = pstA no (gv no) q0 := by unfold pstA; rw [e3, e4]
    rw [h8]
    exact ho _ _ h9 (fun e9 => pn2 no hi e9.symm)
  · obtain ⟨q0, e1, e2, e3, e4, e5, e6⟩ := (e.no no).2 q hq
    rw [e2]
    rw [e5] at hg
    exact own_stayC (h.row no q0 e1 hg) fun k o e7 e8 => ho k o e8 fun e9 => pn3 no q0 e1 hg (by rw [e7, e9])
  · obtain ⟨q1, a1, a2, a3, a4, a5, a6⟩ := (e.no a).2 qa ha
    obtain ⟨q2, b1, b2, b3, b4, b5, b6⟩ := (e.no b).2 qb hb
    exact h.apart a b q1 q2 a1 b1 (by rw [← a5]; exact hga) (by rw [← b5]; exact hgb) hne
  · have h9 : s'.lo.flatMap (lostC s'.ps gv) = s.lo.flatMap (lostC s.ps gv) := by
      rw [hlo, List.flatMap_def, List.flatMap_def]
      congr 1
      refine List.map_congr_left fun k _ => ?_
      rw [lostC_at, lostC_at]
      cases hk : atNo s.ps ((k : Int) + 1) with
      | none =>
        cases hk2 : atNo s'.ps ((k : Int) + 1) with
        | none => rfl
        | some q =>
          obtain ⟨q0, e1, _⟩ := (e.no _).2 q hk2
          rw [hk] at e1; cases e1
      | some q0 =>
        obtain ⟨q, e1, e2, e3, e4, e5, e6⟩ := (e.no _).1 q0 hk
        rw [e1]
        simp only
        rw [e3, e4]
    rw [h9, hlo]
    exact own_stayC h.lrow fun k o e7 e8 => ho k o e8 fun e9 => pn4 (by rw [e7, e9])
/-- A post more. -/
theorem BP.new (h : BP B P p mb s mn D is gk gv lv w) {q1 : Pst} {k : Nat} (hs : s'.ps = s.ps ++ [q1]) (hlo : s'.lo = s.lo) (hop : q1.op = true) (hlok : ∀ j ∈ s.lo, ∃ x, s.ps[j]? = some x ∧ x.lost = true ∧ x.cl = true) (hk : w.heap.size ≤ k) (hB : B ≤ w.heap.size)
    (hmap : w'.ownsMap Tryd.prog 3 ptE mb (mn + 1) (D.put (.int .i64 ((s.ps.length : Int) + 1)) (.lit (.int .i64 (k : Int)))))
    (hbox : w'.heap[p]? = some (.cells (boxA P s' mb lv) 57 (0, 0))) (hcell : w'.heap[k]? = some (.cells (pstA ((s.ps.length : Int) + 1) v1 q1) 41 (0, 0)))
    (hrow : w'.ownsRow B 51 4 v1 q1.nts.length (q1.nts.flatMap Nt.cs)) (hv : v1.ownBlock = none ∨ ∃ j, w.heap.size ≤ j ∧ v1.ownBlock = some j)
    (ho : ∀ j o, w.heap[j]? = some o → j ≠ p → j ≠ mb → w'.heap[j]? = some o) (hlk : Keyed Tryd.prog 3) :
    BP B P p mb s' (mn + 1) (D.put (.int .i64 ((s.ps.length : Int) + 1)) (.lit (.int .i64 (k : Int)))) (is ++ [(s.ps.length : Int) + 1]) (upd gk ((s.ps.length : Int) + 1) k) (upd gv ((s.ps.length : Int) + 1) v1) lv w' := by
  obtain ⟨N, hN⟩ : ∃ N, (s.ps.length : Int) + 1 = N := ⟨_, rfl⟩
  rw [hN] at hmap hcell ⊢
  obtain ⟨pn1, pn2, pn3, pn4⟩ := h.pne
  obtain ⟨mn1, mn2, mn3⟩ := h.mne
  have hat0 : ∀ a q, atNo s.ps a = some q → a ≠ N := fun a q ha e => by have := (atNo_some ha).2.2; omega
  have hat : ∀ a, atNo s'.ps a = if a = N then some q1 else atNo s.ps a := fun a => by
    rw [hs]
    unfold atNo
    by_cases e : a = N
    · rw [if_pos e, if_neg (by omega), show (a - 1).toNat = s.ps.length by omega, List.getElem?_concat_length]
    · rw [if_neg e]
      by_cases e1 : a < 1
      · rw [if_pos e1, if_pos e1]
      · rw [if_neg e1, if_neg e1]
        by_cases e2 : (a - 1).toNat < s.ps.length
        · rw [List.getElem?_append_left e2]
        · rw [List.getElem?_eq_none (by simp; omega), List.getElem?_eq_none (by omega)]
  have hni : N ∉ is := fun hi => by obtain ⟨q, hq, _⟩ := (h.mem N).1 hi; exact hat0 N q hq rfl
  have hneq : ∀ a, a ∈ is → a ≠ N := fun a ha e => hni (e ▸ ha)
  have hin : ∀ a, a ∈ is ++ [N] ↔ a ∈ is ∨ a = N := fun a => by simp
  have hkl : ∀ a ∈ is, gk a ≠ k := fun a hi e => by
    obtain ⟨q, hq, _⟩ := (h.mem a).1 hi
    have := lt_of_block (h.cell a q hi hq); omega
  have hnew : ∀ a qa, atNo s.ps a = some qa → qa.gone = false → (gv a).ownBlock = none ∨ (gv a).ownBlock ≠ v1.ownBlock := fun a qa ha hga => by
    cases e5 : (gv a).ownBlock with
    | none => exact .inl rfl
    | some x =>
      refine .inr fun e6 => ?_
      have := ((h.row a qa ha hga).lt _ e5).2
      rcases hv with hv | ⟨j, hj, hv⟩
      · rw [hv] at e6; cases e6
      · rw [hv] at e6; cases e6; omega
  refine ⟨hbox, hmap, ?_, ?_, fun no => ?_, fun no q hi hq => ?_, fun no q hq hg => ?_, fun a b ha hb e => ?_, fun a b qa qb ha hb hga hgb hne => ?_, ?_, fun no hi => ?_, h.lp, h.lm, fun no hi => ?_⟩
  · exact h.mp.put (fun x y e => by injection e) hni trivial (h.map.tidy hlk) k
  · rw [List.nodup_append]
    exact ⟨h.nd, by simp, fun a ha c hc => by simp at hc; subst hc; exact fun e => hni (e ▸ ha)⟩
  · rw [hin, hat]
    by_cases e : no = N
    · rw [if_pos e]
      exact ⟨fun _ => ⟨q1, rfl, hop⟩, fun _ => .inr e⟩
    · rw [if_neg e, h.mem]
      exact ⟨fun h1 => h1.resolve_right e, fun h1 => .inl h1⟩
  · rw [hat] at hq
    by_cases e : no = N
    · subst e
      rw [if_pos rfl] at hq
      cases hq
      rw [upd_same, upd_same]; exact hcell
    · rw [if_neg e] at hq
      have hi' : no ∈ is := ((hin no).1 hi).resolve_right e
      rw [upd_other _ _ e, upd_other _ _ e]
      exact ho _ _ (h.cell no q hi' hq) (fun e2 => pn2 no hi' e2.symm) (fun e2 => mn1 no hi' e2.symm)
  · rw [hat] at hq
    by_cases e : no = N
    · subst e
      rw [if_pos rfl] at hq
      cases hq
      rw [upd_same]; exact hrow
    · rw [if_neg e] at hq
      rw [upd_other _ _ e]
      exact own_stayC (h.row no q hq hg) fun j o e2 e3 => ho j o e3 (fun e4 => pn3 no q hq hg (by rw [e2, e4])) (fun e4 => mn2 no q hq hg (by rw [e2, e4]))
  · rcases (hin a).1 ha with ha | ea
    · rcases (hin b).1 hb with hb | eb
      · rw [upd_other _ _ (hneq a ha), upd_other _ _ (hneq b hb)] at e
        exact h.inj a b ha hb e
      · rw [eb, upd_other _ _ (hneq a ha), upd_same] at e; exact absurd e (hkl a ha)
    · rcases (hin b).1 hb with hb | eb
      · rw [ea, upd_other _ _ (hneq b hb), upd_same] at e; exact absurd e.symm (hkl b hb)
      · rw [ea, eb]
  · rw [hat] at ha hb
    by_cases ea : a = N
    · subst ea
      have eb : b ≠ a := fun e => hne e.symm
      rw [if_neg eb] at hb
      rw [upd_same, upd_other _ _ eb]
      rcases hnew b qb hb hgb with h5 | h5
      · cases e6 : v1.ownBlock with
        | none => exact .inl rfl
        | some x => exact .inr (by rw [h5]; simp)
      · exact .inr (Ne.symm h5)
    · rw [if_neg ea] at ha
      rw [upd_other _ _ ea]
      by_cases eb : b = N
      · subst eb
        rw [upd_same]
        exact hnew a qa ha hga
      · rw [if_neg eb] at hb
        rw [upd_other _ _ eb]
        exact h.apart a b qa qb ha hb hga hgb hne
  · have h9 : s'.lo.flatMap (lostC s'.ps (upd gv N v1)) = s.lo.flatMap (lostC s.ps gv) := by
      rw [hlo, List.flatMap_def, List.flatMap_def]
      congr 1
      refine List.map_congr_left fun j hj => ?_
      obtain ⟨x, e1, _⟩ := hlok j hj
      have hx : atNo s.ps ((j : Int) + 1) = some x := by rw [atNo_nat]; exact e1
      have hne := hat0 _ _ hx
      rw [lostC_at, lostC_at, hat, if_neg hne, upd_other _ _ hne]
    rw [h9, hlo]
    exact own_stayC h.lrow fun j o e2 e3 => ho j o e3 (fun e4 => pn4 (by rw [e2, e4])) (fun e4 => mn3 (by rw [e2, e4]))
  · rcases (hin no).1 hi with hi | en
    · rw [upd_other _ _ (hneq no hi)]; exact h.lap no hi
    · rw [en, upd_same]
      intro e
      have := (h.lrow.lt k e).2
      omega
  · rcases (hin no).1 hi with hi | en
    · rw [upd_other _ _ (hneq no hi)]; exact h.lk no hi
    · rw [en, upd_same]; omega
end
end Go.Proofs.YtnkccilgbhogbaaDoor
