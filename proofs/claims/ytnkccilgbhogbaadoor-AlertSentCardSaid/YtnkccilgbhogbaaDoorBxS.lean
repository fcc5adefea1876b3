/- Boxes of posts: the sums of what was put, sent and lost. -/
import Derived.Test.YtnkccilgbhogbaaDoorBxM
namespace Go.Proofs.YtnkccilgbhogbaaDoor
open Go.RowKit
set_option linter.unusedVariables false
set_option linter.unusedSimpArgs false
def sumF (f : Pst → Nat) (ps : List Pst) : Nat := (ps.map f).sum
def lnF (p : Pst) : Nat := p.nts.length
def goF (p : Pst) : Nat := if p.gone then p.nts.length else 0
def loF (p : Pst) : Nat := if p.lost then p.nts.length else 0
def opF (p : Pst) : Nat := if p.op then p.nts.length else 0
def lenAt (ps : List Pst) (k : Nat) : Nat := match ps[k]? with
  | none => 0
  | some p => p.nts.length
theorem sumF_set (f : Pst → Nat) : ∀ {ps : List Pst} {k : Nat} {p q : Pst}, ps[k]? = some p → sumF f (ps.set k q) + f p = sumF f ps + f q
  | [], _, _, _, h => by simp at h
  | x :: l, 0, p, q, h => by simp at h; subst h; simp [sumF]; omega
  | x :: l, k + 1, p, q, h => by
    simp at h
    have := sumF_set f (q := q) h
    simp [sumF] at this ⊢
    omega
theorem sumF_set' {f : Pst → Nat} {ps : List Pst} {k : Nat} {p q : Pst} (h : ps[k]? = some p) (e : f q = f p) : sumF f (ps.set k q) = sumF f ps := by
  have := sumF_set f (q := q) h
  omega
theorem sumF_snoc (f : Pst → Nat) (ps : List Pst) (q : Pst) : sumF f (ps ++ [q]) = sumF f ps + f q := by simp [sumF]
theorem lenAt_set {ps : List Pst} {k j : Nat} {p q : Pst} (h : ps[k]? = some p) (e : q.nts.length = p.nts.length) : lenAt (ps.set k q) j = lenAt ps j := by
  unfold lenAt
  by_cases hk : k = j
  · subst hk
    rw [List.getElem?_set_self (List.getElem?_eq_some_iff.1 h).1, h]
    exact e
  · rw [List.getElem?_set_ne hk]
structure SmOk (s : Bx) (put done : Nat) : Prop where
  ex : ∀ p ∈ s.ps, p.gone = true → p.lost = true → False
  tot : sumF lnF s.ps = put
  dn : sumF goF s.ps = done
  ls : (s.lo.map (lenAt s.ps)).sum = sumF loF s.ps
theorem SmOk.empty : SmOk emptyX 0 0 := ⟨by simp [emptyX], rfl, rfl, rfl⟩
theorem addN_sum {P : Pln} {ps : List Pst} (h : PsOk P ps) (n : Nt) : sumF lnF (addN P.mo ps n) = sumF lnF ps + 1 ∧ sumF goF (addN P.mo ps n) = sumF goF ps ∧ sumF loF (addN P.mo ps n) = sumF loF ps := by
  unfold addN
  cases hg : gat ps with
  | none => simp only; rw [sumF_snoc, sumF_snoc, sumF_snoc]; simp [lnF, goF, loF, newP]
  | some q =>
    obtain ⟨h1, h2, h3⟩ := gat_some hg
    have ho := (h.un q (List.mem_of_getElem? h1) h2).1
    have hgo : q.gone = false := by cases e : q.gone <;> simp [Pst.op, e] at ho ⊢
    have hlo : q.lost = false := by cases e : q.lost <;> simp [Pst.op, e] at ho ⊢
    have e1 := sumF_set lnF (q := addP P.mo q n) h1
    simp only
    refine ⟨?_, sumF_set' h1 (by simp [goF, addP, hgo]), sumF_set' h1 (by simp [loF, addP, hlo])⟩
    simp [lnF, addP] at e1 ⊢
    omega
theorem addN_ex {P : Pln} {ps : List Pst} (h : ∀ p ∈ ps, p.gone = true → p.lost = true → False) (n : Nt) : ∀ p ∈ addN P.mo ps n, p.gone = true → p.lost = true → False := by
  unfold addN
  cases hg : gat ps with
  | none =>
    intro p hp
    simp only [List.mem_append, List.mem_singleton] at hp
    rcases hp with hp | rfl
    · exact h p hp
    · intro e; cases e
  | some q =>
    obtain ⟨h1, h2, h3⟩ := gat_some hg
    intro p hp
    rcases mem_set hp with rfl | hp
    · exact h q (List.mem_of_getElem? h1)
    · exact h p hp
theorem addL_sum {P : Pln} (hP : P.ok) : ∀ (l : List Nt) {ps : List Pst}, PsOk P ps → (∀ n ∈ l, 0 ≤ n.at_ ∧ n.at_ ≤ 3155759999) → (∀ p ∈ ps, p.gone = true → p.lost = true → False) →
    sumF lnF (addL P.mo ps l) = sumF lnF ps + l.length ∧ sumF goF (addL P.mo ps l) = sumF goF ps ∧ sumF loF (addL P.mo ps l) = sumF loF ps ∧ ∀ p ∈ addL P.mo ps l, p.gone = true → p.lost = true → False
  | [], ps, h, _, hx => ⟨rfl, rfl, rfl, hx⟩
  | n :: l, ps, h, hl, hx => by
    obtain ⟨a, b, c⟩ := addN_sum h n
    obtain ⟨a', b', c', d'⟩ := addL_sum hP l (h.addN hP (hl n (by simp))) (fun m hm => hl m (by simp [hm])) (addN_ex (P := P) hx n)
    rw [a] at a'
    rw [b] at b'
    rw [c] at c'
    exact ⟨by show sumF lnF (addL P.mo (addN P.mo ps n) l) = _; rw [a', List.length_cons]; omega, b', c', d'⟩
theorem lo_sum {s : Bx} {ps' : List Pst} (hlo : ∀ k ∈ s.lo, ∃ p, s.ps[k]? = some p ∧ p.lost = true ∧ p.cl = true) (h : ∀ (k : Nat) (p : Pst), s.ps[k]? = some p → p.cl = true → ps'[k]? = some p) : s.lo.map (lenAt ps') = s.lo.map (lenAt s.ps) :=
  List.map_congr_left fun k hk => by
    obtain ⟨p, e1, e2, e3⟩ := hlo k hk
    unfold lenAt
    rw [e1, h k p e1 e3]
theorem SmOk.put {P : Pln} (hP : P.ok) {s : Bx} {n d : Nat} (hb : BxOk P s) (h : SmOk s n d) (l : List Nt) : SmOk (putS P.mo s l) (if putE P.mo s l = 0 then n + l.length else n) d := by
  unfold putS
  by_cases h0 : putE P.mo s l = 0
  · rw [if_neg (by simp [h0]), if_pos h0]
    have h0' := h0
    unfold putE at h0'
    split at h0'
    · exact absurd h0' (by assumption)
    · rename_i h1
      have hl := fun n hn => (ntsE_zero l (by simpa using h1) n hn).1
      obtain ⟨a, b, c, e⟩ := addL_sum hP l hb.ps hl h.ex
      refine ⟨e, by rw [a, h.tot], by rw [b, h.dn], ?_⟩
      show (s.lo.map (lenAt (addL P.mo s.ps l))).sum = sumF loF (addL P.mo s.ps l)
      rw [c, lo_sum hb.lo (fun k p e1 e2 => addL_cl l e1 e2), h.ls]
  · rw [if_pos h0, if_neg h0]; exact h
theorem SmOk.dued {P : Pln} {s : Bx} {n d : Nat} (hb : BxOk P s) (h : SmOk s n d) (t : Int) : SmOk (dueS P.wa s t) n d := by
  unfold dueS
  split
  · exact h
  · have hlo : s.lo.map (lenAt (clP P.wa t s.ps)) = s.lo.map (lenAt s.ps) := lo_sum hb.lo fun k p e1 e2 => clP_cl e1 e2
    have hS : ∀ f : Pst → Nat, (∀ p : Pst, f { p with cl := true } = f p) → sumF f (clP P.wa t s.ps) = sumF f s.ps := fun f hf => by
      unfold clP
      cases hg : gat s.ps with
      | none => rfl
      | some q =>
        simp only
        split
        · exact sumF_set' (gat_some hg).1 (hf q)
        · rfl
    refine ⟨?_, ?_, ?_, ?_⟩
    · show ∀ p ∈ clP P.wa t s.ps, _
      unfold clP
      cases hg : gat s.ps with
      | none => exact h.ex
      | some q =>
        simp only
        split
        · intro p hp
          rcases mem_set hp with rfl | hp
          · exact h.ex q (List.mem_of_getElem? (gat_some hg).1)
          · exact h.ex p hp
        · exact h.ex
    · show sumF lnF (clP P.wa t s.ps) = n
      rw [hS lnF (fun _ => rfl), h.tot]
    · show sumF goF (clP P.wa t s.ps) = d
      rw [hS goF (fun _ => rfl), h.dn]
    · show (s.lo.map (lenAt (clP P.wa t s.ps))).sum = sumF loF (clP P.wa t s.ps)
      rw [hlo, hS loF (fun _ => rfl), h.ls]
theorem op_not {p : Pst} (h : p.op = true) : p.gone = false ∧ p.lost = false := by
  cases e : p.gone <;> cases e2 : p.lost <;> simp [Pst.op, e, e2] at h ⊢
theorem SmOk.done {P : Pln} {s : Bx} {n d : Nat} (hb : BxOk P s) (h : SmOk s n d) (no : Int) : SmOk (donS s no) n (if finE s.ps no = 0 then d + lenAt s.ps (no - 1).toNat else d) := by
  unfold donS
  by_cases h0 : finE s.ps no = 0
  · obtain ⟨p, e1, e2, e3⟩ := finE_zero h0
    obtain ⟨_, hk, _⟩ := atNo_some e1
    obtain ⟨hg, hl⟩ := op_not e2
    rw [e1]
    simp only
    rw [if_neg (by simp [h0]), if_pos h0]
    have f1 := sumF_set goF (q := { p with gone := true }) hk
    refine ⟨fun x hx => ?_, ?_, ?_, ?_⟩
    · rcases mem_set hx with rfl | hx
      · intro _ e; rw [show ({ p with gone := true } : Pst).lost = p.lost from rfl, hl] at e; cases e
      · exact h.ex x hx
    · show sumF lnF (s.ps.set _ _) = n
      rw [sumF_set' hk (by rfl), h.tot]
    · show sumF goF (s.ps.set _ _) = d + _
      rw [← h.dn]
      have f2 : lenAt s.ps (no - 1).toNat = p.nts.length := by unfold lenAt; rw [hk]
      have f3 : goF p = 0 := by simp [goF, hg]
      have f4 : goF { p with gone := true } = p.nts.length := by simp [goF]
      rw [f3, f4] at f1
      rw [f2]
      exact f1
    · show (s.lo.map (lenAt (s.ps.set _ _))).sum = sumF loF (s.ps.set _ _)
      rw [sumF_set' hk (by rfl), ← h.ls]
      congr 1
      exact List.map_congr_left fun j _ => lenAt_set hk rfl
  · rw [if_neg h0]
    cases e : atNo s.ps no with
    | none => exact h
    | some p => simp only; rw [if_pos h0]; exact h
theorem SmOk.fail {P : Pln} {s : Bx} {n d : Nat} (hb : BxOk P s) (h : SmOk s n d) (no t : Int) : SmOk (faiS P s no t) n d := by
  unfold faiS
  cases ha : atNo s.ps no with
  | none => exact h
  | some p =>
    simp only
    split
    · exact h
    · rename_i h0
      obtain ⟨f1, f2⟩ := faiE_zero (show faiE s no t = 0 by simpa using h0)
      obtain ⟨p', e1, e2, e3⟩ := finE_zero f1
      rw [ha] at e1
      obtain rfl : p = p' := Option.some.inj e1
      obtain ⟨_, hk, _⟩ := atNo_some ha
      obtain ⟨hg, hl⟩ := op_not e2
      split
      · refine ⟨fun x hx => ?_, ?_, ?_, ?_⟩
        · rcases mem_set hx with rfl | hx
          · intro e; rw [show ({ p with tr := p.tr + 1, nx := min (t + waitN P.ag p.tr) 3155759999 } : Pst).gone = p.gone from rfl, hg] at e; cases e
          · exact h.ex x hx
        · show sumF lnF (s.ps.set _ _) = n
          rw [sumF_set' hk (by rfl), h.tot]
        · show sumF goF (s.ps.set _ _) = d
          rw [sumF_set' hk (by rfl), h.dn]
        · show (s.lo.map (lenAt (s.ps.set _ _))).sum = sumF loF (s.ps.set _ _)
          rw [sumF_set' hk (by rfl), ← h.ls]
          congr 1
          exact List.map_congr_left fun j _ => lenAt_set hk rfl
      · have f3 := sumF_set loF (q := { p with tr := p.tr + 1, lost := true }) hk
        refine ⟨fun x hx => ?_, ?_, ?_, ?_⟩
        · rcases mem_set hx with rfl | hx
          · intro e; rw [show ({ p with tr := p.tr + 1, lost := true } : Pst).gone = p.gone from rfl, hg] at e; cases e
          · exact h.ex x hx
        · show sumF lnF (s.ps.set _ _) = n
          rw [sumF_set' hk (by rfl), h.tot]
        · show sumF goF (s.ps.set _ _) = d
          rw [sumF_set' hk (by rfl), h.dn]
        · show ((s.lo ++ [(no - 1).toNat]).map (lenAt (s.ps.set _ _))).sum = sumF loF (s.ps.set _ _)
          rw [show lenAt (s.ps.set (no - 1).toNat { p with tr := p.tr + 1, lost := true }) = lenAt s.ps from funext fun j => lenAt_set hk rfl, List.map_append, List.sum_append, h.ls]
          have f4 : lenAt s.ps (no - 1).toNat = p.nts.length := by unfold lenAt; rw [hk]
          have f5 : loF p = 0 := by simp [loF, hl]
          have f6 : loF { p with tr := p.tr + 1, lost := true } = p.nts.length := by simp [loF]
          rw [f5, f6] at f3
          rw [List.map_singleton, List.sum_singleton, f4]
          omega
theorem sel_sum (f : Pst → Bool) (ps : List Pst) : ((selP f ps).map fun x => x.2.nts.length).sum = sumF (fun p => if f p then p.nts.length else 0) ps := by
  have key : ∀ (l : List Pst) (k : Nat), ((((l.zipIdx k).filter fun x => f x.1).map fun x => (x.2, x.1)).map fun x => x.2.nts.length).sum = sumF (fun p => if f p then p.nts.length else 0) l := by
    intro l
    induction l with
    | nil => intro k; rfl
    | cons x l ih =>
      intro k
      rw [List.zipIdx_cons, List.filter_cons]
      have := ih (k + 1)
      by_cases h : f x = true
      · simp [h, sumF] at this ⊢; omega
      · simp [h, sumF] at this ⊢; omega
  exact key ps 0
theorem lost_sum {s : Bx} (hlo : ∀ k ∈ s.lo, ∃ p, s.ps[k]? = some p ∧ p.lost = true ∧ p.cl = true) : ((lostL s).map fun x => x.2.nts.length).sum = (s.lo.map (lenAt s.ps)).sum := by
  unfold lostL
  generalize s.lo = lo at hlo
  induction lo with
  | nil => rfl
  | cons k l ih =>
    obtain ⟨p, e1, _, _⟩ := hlo k (by simp)
    have h1 := ih fun j hj => hlo j (by simp [hj])
    have h2 : lenAt s.ps k = p.nts.length := by unfold lenAt; rw [e1]
    rw [List.filterMap_cons, e1]
    simp only [Option.map_some, List.map_cons, List.sum_cons]
    rw [h1, h2]
theorem all_sum {s : Bx} {n d : Nat} (h : SmOk s n d) : sumF opF s.ps + sumF loF s.ps + d = n := by
  rw [← h.tot, ← h.dn]
  have hex := h.ex
  generalize s.ps = l at hex
  induction l with
  | nil => rfl
  | cons x l ih =>
    have i1 := ih fun p hp => hex p (by simp [hp])
    have i2 := hex x (by simp)
    have : opF x + loF x + goF x = lnF x := by
      cases e1 : x.gone <;> cases e2 : x.lost <;> simp [opF, loF, goF, lnF, Pst.op, e1, e2]
      exact absurd e2 (by intro _; exact i2 e1 e2)
    simp [sumF] at i1 ⊢
    omega
/-- What is sent, open and lost is what was put. -/
theorem box_sum {P : Pln} {s : Bx} {n d : Nat} (hb : BxOk P s) (h : SmOk s n d) : d + ((openL s).map fun x => x.2.nts.length).sum + ((lostL s).map fun x => x.2.nts.length).sum = n := by
  have h1 : ((openL s).map fun x => x.2.nts.length).sum = sumF opF s.ps := sel_sum Pst.op s.ps
  rw [h1, lost_sum hb.lo, h.ls]
  have := all_sum h
  omega
theorem sel_mem {f : Pst → Bool} {ps : List Pst} {k : Nat} {p : Pst} (h : (k, p) ∈ selP f ps) : ps[k]? = some p ∧ f p = true := by
  unfold selP at h
  rw [List.mem_map] at h
  obtain ⟨⟨q, j⟩, h1, h2⟩ := h
  rw [List.mem_filter] at h1
  cases h2
  exact ⟨List.mem_zipIdx_iff_getElem?.1 h1.1, h1.2⟩
theorem open_len {P : Pln} {s : Bx} (hb : BxOk P s) : ∀ x ∈ openL s, (1 ≤ x.2.nts.length ∧ x.2.nts.length ≤ P.mo) ∧ x.2.tr ≤ P.tr := fun ⟨k, p⟩ hx => by
  obtain ⟨h1, h2⟩ := sel_mem hx
  have hm := List.mem_of_getElem? h1
  exact ⟨hb.ps.len p hm, (hb.ps.tr p hm).2⟩
theorem lost_len {P : Pln} {s : Bx} (hb : BxOk P s) : ∀ x ∈ lostL s, (1 ≤ x.2.nts.length ∧ x.2.nts.length ≤ P.mo) ∧ x.2.tr ≤ P.tr := fun ⟨k, p⟩ hx => by
  unfold lostL at hx
  rw [List.mem_filterMap] at hx
  obtain ⟨j, _, h2⟩ := hx
  cases e : s.ps[j]? with
  | none => rw [e] at h2; cases h2
  | some q =>
    rw [e] at h2
    cases h2
    have hm := List.mem_of_getElem? e
    exact ⟨hb.ps.len p hm, (hb.ps.tr p hm).2⟩
end Go.Proofs.YtnkccilgbhogbaaDoor
