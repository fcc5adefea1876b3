/- Boxes of posts: the deeds in plain words, what stays true of a box, and the sums. -/
import Derived.Test.YtnkccilgbhogbaaDoorBxL
import Derived.Test.YtnkccilgbhogbaaDoorAlChk
import Derived.Test.YtnkccilgbhogbaaDoorNames
namespace Go.Proofs.YtnkccilgbhogbaaDoor
open Go.RowKit
set_option linter.unusedVariables false
set_option linter.unusedSimpArgs false
theorem momB_iff {n : Int} : momB n = true ↔ 0 ≤ n ∧ n ≤ 3155759999 := by
  unfold momB outsideB
  simp
def ntE (last : Int) (n : Nt) : Int := if momB n.at_ = false then 2 else if n.at_ < last then 5 else if nameB n.rule = false then 3 else if outsideB n.kind 1 2 = true then 10 else 0
def ntsE : Int → List Nt → Int
  | _, [] => 0
  | last, n :: l => if ntE last n ≠ 0 then ntE last n else ntsE n.at_ l
def lastA (put : Int) (l : List Nt) : Int := l.foldl (fun _ n => n.at_) put
def putE (mo : Nat) (s : Bx) (l : List Nt) : Int := if ntsE s.put l ≠ 0 then ntsE s.put l else if 500 < opens (addL mo s.ps l) then 12 else 0
def putS (mo : Nat) (s : Bx) (l : List Nt) : Bx := if putE mo s l ≠ 0 then s else { s with ps := addL mo s.ps l, put := lastA s.put l }
def timE (due t : Int) : Int := if momB t = false then 2 else if t < due then 5 else 0
def headA (p : Pst) : Int := match p.nts with | [] => 0 | n :: _ => n.at_
def clP (wa t : Int) (ps : List Pst) : List Pst := match gat ps with
  | none => ps
  | some p => if wa ≤ t - headA p then ps.set (ps.length - 1) { p with cl := true } else ps
def dueS (wa : Int) (s : Bx) (t : Int) : Bx := if timE s.due t ≠ 0 then s else { s with due := t, ps := clP wa t s.ps }
/-- The posts for which a test holds, with their numbers. -/
def selP (f : Pst → Bool) (ps : List Pst) : List (Nat × Pst) := (ps.zipIdx.filter fun x => f x.1).map fun x => (x.2, x.1)
def dueL (s : Bx) (t : Int) : List (Nat × Pst) := selP (fun p => p.op && p.cl && decide (p.nx ≤ t)) s.ps
def openL (s : Bx) : List (Nat × Pst) := selP Pst.op s.ps
def lostL (s : Bx) : List (Nat × Pst) := s.lo.filterMap fun k => s.ps[k]?.map fun p => (k, p)
/-- The post with the number no. -/
def atNo (ps : List Pst) (no : Int) : Option Pst := if no < 1 then none else ps[(no - 1).toNat]?
def finE (ps : List Pst) (no : Int) : Int := match atNo ps no with
  | none => 7
  | some p => if p.op = false then 7 else if p.cl = false then 11 else 0
def setNo (ps : List Pst) (no : Int) (p : Pst) : List Pst := ps.set (no - 1).toNat p
def donS (s : Bx) (no : Int) : Bx := match atNo s.ps no with
  | none => s
  | some p => if finE s.ps no ≠ 0 then s else { s with ps := setNo s.ps no { p with gone := true } }
def faiE (s : Bx) (no t : Int) : Int := if finE s.ps no ≠ 0 then finE s.ps no else timE s.due t
def waitN (ag tr : Int) : Int := ag * 2 ^ tr.toNat
def faiB (P : Pln) (s : Bx) (no t : Int) : Bool := match atNo s.ps no with
  | none => false
  | some p => decide (faiE s no t = 0) && decide (p.tr + 1 < P.tr)
def faiS (P : Pln) (s : Bx) (no t : Int) : Bx := match atNo s.ps no with
  | none => s
  | some p => if faiE s no t ≠ 0 then s else
      if p.tr + 1 < P.tr then { s with due := t, ps := setNo s.ps no { p with tr := p.tr + 1, nx := min (t + waitN P.ag p.tr) 3155759999 } }
      else { s with due := t, ps := setNo s.ps no { p with tr := p.tr + 1, lost := true }, lo := s.lo ++ [(no - 1).toNat] }
structure BxOk (P : Pln) (s : Bx) : Prop where
  ps : PsOk P s.ps
  op : opens s.ps ≤ 500
  p1 : 0 ≤ s.put
  p2 : s.put ≤ 3155759999
  d1 : 0 ≤ s.due
  d2 : s.due ≤ 3155759999
  lo : ∀ k ∈ s.lo, ∃ p, s.ps[k]? = some p ∧ p.lost = true ∧ p.cl = true
def emptyX : Bx := ⟨[], 0, 0, []⟩
theorem BxOk.empty (P : Pln) : BxOk P emptyX := ⟨PsOk.nil P, by simp [emptyX, opens], by simp [emptyX], by simp [emptyX], by simp [emptyX], by simp [emptyX], by simp [emptyX]⟩
theorem ntE_zero {last : Int} {n : Nt} (h : ntE last n = 0) : (0 ≤ n.at_ ∧ n.at_ ≤ 3155759999) ∧ last ≤ n.at_ ∧ nameB n.rule = true ∧ outsideB n.kind 1 2 = false := by
  unfold ntE at h
  split at h
  · cases h
  split at h
  · cases h
  split at h
  · cases h
  split at h
  · cases h
  rename_i h1 h2 h3 h4
  exact ⟨momB_iff.1 (by simpa using h1), by omega, by simpa using h3, by simpa using h4⟩
theorem ntsE_zero : ∀ (l : List Nt) {last : Int}, ntsE last l = 0 → ∀ n ∈ l, (0 ≤ n.at_ ∧ n.at_ ≤ 3155759999) ∧ nameB n.rule = true
  | [], _, _, _, h => by cases h
  | x :: l, last, h, n, hn => by
    rw [ntsE] at h
    split at h
    · exact absurd h (by assumption)
    · rename_i h0
      have h0' : ntE last x = 0 := by simpa using h0
      rcases List.mem_cons.1 hn with rfl | hn
      · exact ⟨(ntE_zero h0').1, (ntE_zero h0').2.2.1⟩
      · exact ntsE_zero l h n hn
theorem lastA_rng : ∀ (l : List Nt) {put : Int}, 0 ≤ put ∧ put ≤ 3155759999 → (∀ n ∈ l, 0 ≤ n.at_ ∧ n.at_ ≤ 3155759999) → 0 ≤ lastA put l ∧ lastA put l ≤ 3155759999
  | [], _, h, _ => h
  | n :: l, _, _, hl => lastA_rng l (hl n (by simp)) fun m hm => hl m (by simp [hm])
theorem addN_len {mo : Nat} (ps : List Pst) (n : Nt) : ps.length ≤ (addN mo ps n).length ∧ (addN mo ps n).length ≤ ps.length + 1 := by
  unfold addN
  cases gat ps <;> simp
theorem addL_len {mo : Nat} : ∀ (l : List Nt) (ps : List Pst), ps.length ≤ (addL mo ps l).length ∧ (addL mo ps l).length ≤ ps.length + l.length
  | [], ps => by simp [addL]
  | n :: l, ps => by
    have h1 := addL_len (mo := mo) l (addN mo ps n)
    have h2 := addN_len (mo := mo) ps n
    show _ ≤ (addL mo (addN mo ps n) l).length ∧ (addL mo (addN mo ps n) l).length ≤ _
    simp only [List.length_cons]
    omega
/-- A post that is closed stays as it is where notices come. -/
theorem addN_cl {mo : Nat} {ps : List Pst} {k : Nat} {p : Pst} (h : ps[k]? = some p) (hc : p.cl = true) (n : Nt) : (addN mo ps n)[k]? = some p := by
  have hk := (List.getElem?_eq_some_iff.1 h).1
  unfold addN
  cases hg : gat ps with
  | none => simp only; rw [List.getElem?_append_left hk]; exact h
  | some q =>
    obtain ⟨h1, h2, h3⟩ := gat_some hg
    simp only
    by_cases e : ps.length - 1 = k
    · rw [e] at h1; rw [h1] at h; cases h; rw [hc] at h2; cases h2
    · rw [List.getElem?_set_ne e]; exact h
theorem addL_cl {mo : Nat} : ∀ (l : List Nt) {ps : List Pst} {k : Nat} {p : Pst}, ps[k]? = some p → p.cl = true → (addL mo ps l)[k]? = some p
  | [], _, _, _, h, _ => h
  | n :: l, _, _, _, h, hc => addL_cl l (addN_cl h hc n) hc
theorem BxOk.put {P : Pln} (hP : P.ok) {s : Bx} (h : BxOk P s) (l : List Nt) : BxOk P (putS P.mo s l) := by
  unfold putS
  split
  · exact h
  · rename_i h0
    have h0' : putE P.mo s l = 0 := by simpa using h0
    unfold putE at h0'
    split at h0'
    · exact absurd h0' (by assumption)
    · rename_i h1
      have h1' : ntsE s.put l = 0 := by simpa using h1
      split at h0'
      · cases h0'
      · rename_i h2
        have hl := fun n hn => (ntsE_zero l h1' n hn).1
        exact ⟨h.ps.addL hP l hl, by show opens (addL P.mo s.ps l) ≤ 500; omega, (lastA_rng l ⟨h.p1, h.p2⟩ hl).1, (lastA_rng l ⟨h.p1, h.p2⟩ hl).2, h.d1, h.d2, fun k hk => by
          obtain ⟨p, e1, e2, e3⟩ := h.lo k hk
          exact ⟨p, addL_cl l e1 e3, e2, e3⟩⟩
theorem timE_zero {due t : Int} (h : timE due t = 0) : (0 ≤ t ∧ t ≤ 3155759999) ∧ due ≤ t := by
  unfold timE at h
  split at h
  · cases h
  split at h
  · cases h
  rename_i h1 h2
  exact ⟨momB_iff.1 (by simpa using h1), by omega⟩
theorem PsOk.close {P : Pln} {ps : List Pst} (h : PsOk P ps) (wa t : Int) : PsOk P (clP wa t ps) ∧ opens (clP wa t ps) = opens ps ∧ (clP wa t ps).length = ps.length := by
  unfold clP
  cases hg : gat ps with
  | none => exact ⟨h, rfl, rfl⟩
  | some q =>
    obtain ⟨h1, h2, h3⟩ := gat_some hg
    have hq := List.mem_of_getElem? h1
    simp only
    split
    · refine ⟨⟨fun p hp => ?_, fun p hp => ?_, fun i p hi hlt => ?_, fun p hp => ?_, fun p hp => ?_, fun p hp => ?_, fun p hp => ?_, fun p hp => ?_⟩, countP_set h1 rfl, by simp⟩
      · rcases mem_set hp with rfl | hp
        · exact h.len q hq
        · exact h.len p hp
      · rcases mem_set hp with rfl | hp
        · intro hc; cases hc
        · exact h.un p hp
      · rw [List.length_set] at hlt
        rw [List.getElem?_set_ne (by omega)] at hi
        exact h.old i p hi hlt
      · rcases mem_set hp with rfl | hp
        · exact h.tr q hq
        · exact h.tr p hp
      · rcases mem_set hp with rfl | hp
        · exact h.tro q hq
        · exact h.tro p hp
      · rcases mem_set hp with rfl | hp
        · exact h.nx q hq
        · exact h.nx p hp
      · rcases mem_set hp with rfl | hp
        · exact h.at_ q hq
        · exact h.at_ p hp
      · rcases mem_set hp with rfl | hp
        · exact h.ex q hq
        · exact h.ex p hp
    · exact ⟨h, rfl, rfl⟩
theorem clP_cl {wa t : Int} {ps : List Pst} {k : Nat} {p : Pst} (h : ps[k]? = some p) (hc : p.cl = true) : (clP wa t ps)[k]? = some p := by
  unfold clP
  cases hg : gat ps with
  | none => exact h
  | some q =>
    obtain ⟨h1, h2, h3⟩ := gat_some hg
    simp only
    split
    · by_cases e : ps.length - 1 = k
      · rw [e] at h1; rw [h1] at h; cases h; rw [hc] at h2; cases h2
      · rw [List.getElem?_set_ne e]; exact h
    · exact h
theorem BxOk.dued {P : Pln} {s : Bx} (h : BxOk P s) (t : Int) : BxOk P (dueS P.wa s t) := by
  unfold dueS
  split
  · exact h
  · rename_i h0
    have h0' := timE_zero (by simpa using h0)
    obtain ⟨a, b, c⟩ := h.ps.close P.wa t
    exact ⟨a, by rw [b]; exact h.op, h.p1, h.p2, h0'.1.1, h0'.1.2, fun k hk => by
      obtain ⟨p, e1, e2, e3⟩ := h.lo k hk
      exact ⟨p, clP_cl e1 e3, e2, e3⟩⟩
theorem atNo_some {ps : List Pst} {no : Int} {p : Pst} (h : atNo ps no = some p) : 1 ≤ no ∧ ps[(no - 1).toNat]? = some p ∧ no ≤ (ps.length : Int) := by
  unfold atNo at h
  split at h
  · cases h
  · have := (List.getElem?_eq_some_iff.1 h).1
    exact ⟨by omega, h, by omega⟩
theorem finE_zero {ps : List Pst} {no : Int} (h : finE ps no = 0) : ∃ p, atNo ps no = some p ∧ p.op = true ∧ p.cl = true := by
  unfold finE at h
  cases ha : atNo ps no with
  | none => rw [ha] at h; cases h
  | some p =>
    rw [ha] at h
    simp only at h
    split at h
    · cases h
    split at h
    · cases h
    rename_i h1 h2
    exact ⟨p, rfl, by simpa using h1, by simpa using h2⟩
theorem op_not9 {p : Pst} (h : p.op = true) : p.gone = false ∧ p.lost = false := by
  cases e : p.gone <;> cases e2 : p.lost <;> simp [Pst.op, e, e2] at h ⊢
/-- A closed post turns: what else holds, holds still. -/
theorem PsOk.turn {P : Pln} {ps : List Pst} (h : PsOk P ps) {k : Nat} {p q : Pst} (hp : ps[k]? = some p) (hn : q.nts = p.nts) (hc : q.cl = true) (ht : 0 ≤ q.tr ∧ q.tr ≤ P.tr) (hto : q.op = true → q.tr < P.tr) (hx : 0 ≤ q.nx ∧ q.nx ≤ 3155759999) (hgl : q.gone = true → q.lost = true → False) : PsOk P (ps.set k q) := by
  have hpm := List.mem_of_getElem? hp
  refine ⟨fun x hx => ?_, fun x hx => ?_, fun i x hi hlt => ?_, fun x hx => ?_, fun x hx => ?_, fun x hx => ?_, fun x hx => ?_, fun x hx => ?_⟩
  · rcases mem_set hx with rfl | hx
    · rw [hn]; exact h.len p hpm
    · exact h.len x hx
  · rcases mem_set hx with rfl | hx
    · intro e; rw [hc] at e; cases e
    · exact h.un x hx
  · rw [List.length_set] at hlt
    by_cases e : k = i
    · subst e
      rw [List.getElem?_set_self (by omega)] at hi
      rw [← Option.some.inj hi]; exact hc
    · rw [List.getElem?_set_ne e] at hi
      exact h.old i x hi hlt
  · rcases mem_set hx with rfl | hx
    · exact ht
    · exact h.tr x hx
  · rcases mem_set hx with rfl | hx
    · exact hto
    · exact h.tro x hx
  · rcases mem_set hx with rfl | hx
    · assumption
    · exact h.nx x hx
  · rcases mem_set hx with rfl | hx
    · rw [hn]; exact h.at_ p hpm
    · exact h.at_ x hx
  · rcases mem_set hx with rfl | hx
    · exact hgl
    · exact h.ex x hx
theorem opens_set {ps : List Pst} {k : Nat} {p q : Pst} (h : ps[k]? = some p) (hp : p.op = true) : opens (ps.set k q) ≤ opens ps := by
  induction ps generalizing k with
  | nil => simp at h
  | cons x l ih =>
    cases k with
    | zero =>
      simp at h
      subst h
      simp only [opens, List.set_cons_zero, List.countP_cons, hp, if_true]
      split <;> omega
    | succ k =>
      simp at h
      have := ih h
      simp only [opens, List.set_cons_succ, List.countP_cons] at this ⊢
      omega
theorem lo_set {s : Bx} {k : Nat} {p q : Pst} (hlo : ∀ j ∈ s.lo, ∃ x, s.ps[j]? = some x ∧ x.lost = true ∧ x.cl = true) (h : s.ps[k]? = some p) (hp : p.op = true) : ∀ j ∈ s.lo, ∃ x, (s.ps.set k q)[j]? = some x ∧ x.lost = true ∧ x.cl = true := fun j hj => by
  obtain ⟨x, e1, e2, e3⟩ := hlo j hj
  by_cases e : k = j
  · subst e; rw [h] at e1; cases e1; simp [Pst.op, e2] at hp
  · exact ⟨x, by rw [List.getElem?_set_ne e]; exact e1, e2, e3⟩
theorem BxOk.done {P : Pln} {s : Bx} (h : BxOk P s) (no : Int) : BxOk P (donS s no) := by
  unfold donS
  cases ha : atNo s.ps no with
  | none => exact h
  | some p =>
    simp only
    split
    · exact h
    · rename_i h0
      obtain ⟨p', e1, e2, e3⟩ := finE_zero (show finE s.ps no = 0 by simpa using h0)
      rw [ha] at e1
      obtain rfl : p = p' := Option.some.inj e1
      obtain ⟨_, hk, _⟩ := atNo_some ha
      have hpm := List.mem_of_getElem? hk
      exact ⟨h.ps.turn hk rfl e3 (h.ps.tr p hpm) (fun e => by simp [Pst.op] at e) (h.ps.nx p hpm) (fun _ e => by have := (op_not9 e2).2; rw [show ({ p with gone := true } : Pst).lost = p.lost from rfl, this] at e; cases e), Nat.le_trans (opens_set hk e2) h.op, h.p1, h.p2, h.d1, h.d2, lo_set h.lo hk e2⟩
theorem faiE_zero {s : Bx} {no t : Int} (h : faiE s no t = 0) : finE s.ps no = 0 ∧ timE s.due t = 0 := by
  unfold faiE at h
  split at h
  · exact absurd h (by assumption)
  · rename_i h1; exact ⟨by simpa using h1, h⟩
theorem waitN_pos {ag tr : Int} (h : 1 ≤ ag) : 0 ≤ waitN ag tr := by
  unfold waitN
  exact Int.mul_nonneg (by omega) (Int.pow_nonneg (by omega))
theorem BxOk.fail {P : Pln} (hP : P.ok) {s : Bx} (h : BxOk P s) (no t : Int) : BxOk P (faiS P s no t) := by
  unfold faiS
  cases ha : atNo s.ps no with
  | none => exact h
  | some p =>
    simp only
    split
    · exact h
    · rename_i h0
      obtain ⟨f1, f2⟩ := faiE_zero (show faiE s no t = 0 by simpa using h0)
      obtain ⟨p', e1, e2, e3⟩ := finE_zero f1
      rw [ha] at e1
      obtain rfl : p = p' := Option.some.inj e1
      obtain ⟨_, hk, _⟩ := atNo_some ha
      have hpm := List.mem_of_getElem? hk
      have ht := timE_zero f2
      have htr := h.ps.tr p hpm
      have hto := h.ps.tro p hpm e2
      have hw := waitN_pos (tr := p.tr) hP.a1
      split
      · exact ⟨h.ps.turn hk rfl e3 ⟨by show 0 ≤ p.tr + 1; omega, by show p.tr + 1 ≤ P.tr; omega⟩ (fun _ => by show p.tr + 1 < P.tr; omega) ⟨by show 0 ≤ min _ _; omega, by show min _ _ ≤ _; omega⟩ (h.ps.ex p hpm), Nat.le_trans (opens_set hk e2) h.op, h.p1, h.p2, ht.1.1, ht.1.2, lo_set h.lo hk e2⟩
      · refine ⟨h.ps.turn hk rfl e3 ⟨by show 0 ≤ p.tr + 1; omega, by show p.tr + 1 ≤ P.tr; omega⟩ (fun e => by simp [Pst.op] at e) (h.ps.nx p hpm) (fun e _ => by have := (op_not9 e2).1; rw [show ({ p with tr := p.tr + 1, lost := true } : Pst).gone = p.gone from rfl, this] at e; cases e), Nat.le_trans (opens_set hk e2) h.op, h.p1, h.p2, ht.1.1, ht.1.2, fun j hj => ?_⟩
        rcases List.mem_append.1 hj with hj | hj
        · exact lo_set h.lo hk e2 j hj
        · rw [List.mem_singleton.1 hj]
          exact ⟨_, List.getElem?_set_self (List.getElem?_eq_some_iff.1 hk).1, rfl, e3⟩
end Go.Proofs.YtnkccilgbhogbaaDoor
