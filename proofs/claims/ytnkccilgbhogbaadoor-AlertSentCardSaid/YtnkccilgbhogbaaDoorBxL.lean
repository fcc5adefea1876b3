/- Boxes of posts, in plain words: what each deed makes of them. -/
import Derived.Test.YtnkccilgbhogbaaDoorAlEq
namespace Go.Proofs.YtnkccilgbhogbaaDoor
open Go.RowKit
set_option linter.unusedVariables false
set_option linter.unusedSimpArgs false
structure Pst where
  nts : List Nt
  tr : Int
  nx : Int
  cl : Bool
  gone : Bool
  lost : Bool
def Pst.op (p : Pst) : Bool := !p.gone && !p.lost
structure Bx where
  ps : List Pst
  put : Int
  due : Int
  lo : List Nat
structure Pln where
  mo : Nat
  wa : Int
  ag : Int
  tr : Int
structure Pln.ok (P : Pln) : Prop where
  m1 : 1 ≤ P.mo
  m2 : P.mo ≤ 100
  w1 : 0 ≤ P.wa
  w2 : P.wa ≤ 604800
  a1 : 1 ≤ P.ag
  a2 : P.ag ≤ 604800
  t1 : 1 ≤ P.tr
  t2 : P.tr ≤ 20
def newP (mo : Nat) (n : Nt) : Pst := ⟨[n], 0, 0, decide (1 = mo), false, false⟩
def addP (mo : Nat) (p : Pst) (n : Nt) : Pst := { p with nts := p.nts ++ [n], cl := decide (p.nts.length + 1 = mo) }
/-- The post that is being gathered. -/
def gat (ps : List Pst) : Option Pst := match ps.getLast? with
  | none => none
  | some p => if p.cl then none else some p
def addN (mo : Nat) (ps : List Pst) (n : Nt) : List Pst := match gat ps with
  | none => ps ++ [newP mo n]
  | some p => ps.set (ps.length - 1) (addP mo p n)
def addL (mo : Nat) (ps : List Pst) (l : List Nt) : List Pst := l.foldl (addN mo) ps
def opens (ps : List Pst) : Nat := ps.countP Pst.op
def gatI (ps : List Pst) : Int := match gat ps with
  | none => 0
  | some _ => (ps.length : Int)
def roomN (mo : Nat) (ps : List Pst) : Nat := match gat ps with
  | none => 0
  | some p => mo - p.nts.length
def freshN (mo n r : Nat) : Nat := ((n - r) + mo - 1) / mo
/-- What holds of the posts of a box. -/
structure PsOk (P : Pln) (ps : List Pst) : Prop where
  len : ∀ p ∈ ps, 1 ≤ p.nts.length ∧ p.nts.length ≤ P.mo
  un : ∀ p ∈ ps, p.cl = false → p.op = true ∧ p.nts.length < P.mo ∧ p.tr = 0
  old : ∀ i p, ps[i]? = some p → i + 1 < ps.length → p.cl = true
  tr : ∀ p ∈ ps, 0 ≤ p.tr ∧ p.tr ≤ P.tr
  tro : ∀ p ∈ ps, p.op = true → p.tr < P.tr
  nx : ∀ p ∈ ps, 0 ≤ p.nx ∧ p.nx ≤ 3155759999
  at_ : ∀ p ∈ ps, ∀ n ∈ p.nts, 0 ≤ n.at_ ∧ n.at_ ≤ 3155759999
  ex : ∀ p ∈ ps, p.gone = true → p.lost = true → False
theorem gat_some {ps : List Pst} {p : Pst} (h : gat ps = some p) : ps[ps.length - 1]? = some p ∧ p.cl = false ∧ 0 < ps.length := by
  unfold gat at h
  rw [List.getLast?_eq_getElem?] at h
  cases hh : ps[ps.length - 1]? with
  | none => rw [hh] at h; cases h
  | some q =>
    rw [hh] at h
    simp only at h
    cases hc : q.cl with
    | true => rw [hc] at h; cases h
    | false =>
      rw [hc] at h
      obtain rfl : q = p := by simpa using h
      exact ⟨rfl, hc, by rw [List.getElem?_eq_some_iff] at hh; obtain ⟨h9, _⟩ := hh; omega⟩
theorem gat_none {ps : List Pst} (h : gat ps = none) : ∀ p, ps[ps.length - 1]? = some p → p.cl = true := by
  intro p hp
  unfold gat at h
  rw [List.getLast?_eq_getElem?, hp] at h
  simp only at h
  cases hc : p.cl with
  | true => rfl
  | false => rw [hc] at h; cases h
theorem PsOk.all {P : Pln} {ps : List Pst} (h : PsOk P ps) (hg : gat ps = none) : ∀ p ∈ ps, p.cl = true := by
  intro p hp
  obtain ⟨i, hi⟩ := List.mem_iff_getElem?.1 hp
  have hlt : i < ps.length := (List.getElem?_eq_some_iff.1 hi).1
  by_cases e : i + 1 < ps.length
  · exact h.old i p hi e
  · exact gat_none hg p (by rw [show ps.length - 1 = i by omega]; exact hi)
theorem gat_new {mo : Nat} (hm : 1 ≤ mo) (ps : List Pst) (n : Nt) : gat (ps ++ [newP mo n]) = if mo = 1 then none else some (newP mo n) := by
  unfold gat
  rw [List.getLast?_append]
  simp only [List.getLast?_singleton, Option.some_or]
  by_cases h : mo = 1
  · subst h; simp [newP]
  · have : ¬ 1 = mo := fun e => h e.symm
    simp [newP, this, h]
theorem gat_add {mo : Nat} {ps : List Pst} {p : Pst} (h : gat ps = some p) (n : Nt) : gat (ps.set (ps.length - 1) (addP mo p n)) = if p.nts.length + 1 = mo then none else some (addP mo p n) := by
  obtain ⟨h1, h2, h3⟩ := gat_some h
  unfold gat
  rw [List.getLast?_eq_getElem?, List.length_set, List.getElem?_set_self (by omega)]
  simp only
  by_cases e : p.nts.length + 1 = mo
  · simp [addP, e]
  · simp [addP, e]
theorem mem_set {ps : List Pst} {i : Nat} {q x : Pst} (h : x ∈ ps.set i q) : x = q ∨ x ∈ ps := by
  rcases List.mem_or_eq_of_mem_set h with h | h
  · exact .inr h
  · exact .inl h
theorem PsOk.nil (P : Pln) : PsOk P [] := ⟨by simp, by simp, by simp, by simp, by simp, by simp, by simp, by simp⟩
theorem PsOk.addN {P : Pln} {ps : List Pst} (hP : P.ok) (h : PsOk P ps) {n : Nt} (hn : 0 ≤ n.at_ ∧ n.at_ ≤ 3155759999) : PsOk P (addN P.mo ps n) := by
  have hm := hP.m1
  have ht := hP.t1
  unfold Go.Proofs.YtnkccilgbhogbaaDoor.addN
  cases hg : gat ps with
  | none =>
    have hall := h.all hg
    have hnew : ∀ p ∈ ps ++ [newP P.mo n], p ∈ ps ∨ p = newP P.mo n := fun p hp => by simpa using hp
    refine ⟨fun p hp => ?_, fun p hp => ?_, fun i p hi hlt => ?_, fun p hp => ?_, fun p hp => ?_, fun p hp => ?_, fun p hp => ?_, fun p hp => ?_⟩
    · rcases hnew p hp with hp | rfl
      · exact h.len p hp
      · simp [newP]; omega
    · rcases hnew p hp with hp | rfl
      · exact h.un p hp
      · intro hc; simp [newP, Pst.op] at hc ⊢; omega
    · have hlt2 : i < ps.length := by simpa using hlt
      rw [List.getElem?_append_left hlt2] at hi
      exact hall p (List.mem_of_getElem? hi)
    · rcases hnew p hp with hp | rfl
      · exact h.tr p hp
      · simp [newP]; omega
    · rcases hnew p hp with hp | rfl
      · exact h.tro p hp
      · intro _; simp [newP]; omega
    · rcases hnew p hp with hp | rfl
      · exact h.nx p hp
      · simp [newP]
    · rcases hnew p hp with hp | rfl
      · exact h.at_ p hp
      · intro m hm; simp [newP] at hm; rw [hm]; exact hn
    · rcases hnew p hp with hp | rfl
      · exact h.ex p hp
      · intro e; cases e
  | some q =>
    obtain ⟨h1, h2, h3⟩ := gat_some hg
    have hq := List.mem_of_getElem? h1
    obtain ⟨u1, u2, u3⟩ := h.un q hq h2
    refine ⟨fun p hp => ?_, fun p hp => ?_, fun i p hi hlt => ?_, fun p hp => ?_, fun p hp => ?_, fun p hp => ?_, fun p hp => ?_, fun p hp => ?_⟩
    · rcases mem_set hp with rfl | hp
      · simp [addP]; omega
      · exact h.len p hp
    · rcases mem_set hp with rfl | hp
      · intro hc
        simp [addP] at hc ⊢
        exact ⟨u1, by omega, u3⟩
      · exact h.un p hp
    · rw [List.length_set] at hlt
      rw [List.getElem?_set_ne (by omega)] at hi
      exact h.old i p hi hlt
    · rcases mem_set hp with rfl | hp
      · exact h.tr q hq
      · exact h.tr p hp
    · rcases mem_set hp with rfl | hp
      · exact fun _ => h.tro q hq u1
      · exact h.tro p hp
    · rcases mem_set hp with rfl | hp
      · exact h.nx q hq
      · exact h.nx p hp
    · rcases mem_set hp with rfl | hp
      · intro m hm
        rcases List.mem_append.1 hm with hm | hm
        · exact h.at_ q hq m hm
        · rw [List.mem_singleton.1 hm]; exact hn
      · exact h.at_ p hp
    · rcases mem_set hp with rfl | hp
      · exact h.ex q hq
      · exact h.ex p hp
theorem PsOk.addL {P : Pln} (hP : P.ok) : ∀ (l : List Nt) {ps : List Pst}, PsOk P ps → (∀ n ∈ l, 0 ≤ n.at_ ∧ n.at_ ≤ 3155759999) → PsOk P (addL P.mo ps l)
  | [], ps, h, _ => h
  | n :: l, ps, h, hl => PsOk.addL hP l (h.addN hP (hl n (by simp))) fun m hm => hl m (by simp [hm])
theorem countP_set {ps : List Pst} {i : Nat} {p q : Pst} (h : ps[i]? = some p) (hq : q.op = p.op) : (ps.set i q).countP Pst.op = ps.countP Pst.op := by
  induction ps generalizing i with
  | nil => simp at h
  | cons x l ih =>
    cases i with
    | zero => simp at h; subst h; simp [List.countP_cons, hq]
    | succ i => simp at h; simp [List.countP_cons, ih h]
theorem opens_addN {P : Pln} {ps : List Pst} (hP : P.ok) (h : PsOk P ps) (n : Nt) : opens (addN P.mo ps n) = opens ps + (if gat ps = none then 1 else 0) ∧ roomN P.mo (addN P.mo ps n) = (if gat ps = none then P.mo - 1 else roomN P.mo ps - 1) := by
  have hm := hP.m1
  unfold Go.Proofs.YtnkccilgbhogbaaDoor.addN
  cases hg : gat ps with
  | none =>
    simp only
    refine ⟨by simp [opens, newP, Pst.op], ?_⟩
    unfold roomN
    rw [gat_new hm]
    by_cases e : P.mo = 1
    · simp [e]
    · simp [e, newP]
  | some q =>
    obtain ⟨h1, h2, h3⟩ := gat_some hg
    obtain ⟨u1, u2, u3⟩ := h.un q (List.mem_of_getElem? h1) h2
    simp only [reduceCtorEq, if_false, Nat.add_zero]
    refine ⟨countP_set h1 rfl, ?_⟩
    unfold roomN
    rw [gat_add hg, hg]
    by_cases e : q.nts.length + 1 = P.mo
    · simp [e]; omega
    · simp [e, addP]; omega
theorem room_pos {P : Pln} {ps : List Pst} (h : PsOk P ps) {q : Pst} (hg : gat ps = some q) : 0 < roomN P.mo ps ∧ roomN P.mo ps = P.mo - q.nts.length := by
  obtain ⟨h1, h2, h3⟩ := gat_some hg
  obtain ⟨u1, u2, u3⟩ := h.un q (List.mem_of_getElem? h1) h2
  unfold roomN
  rw [hg]
  exact ⟨by show 0 < P.mo - _; omega, rfl⟩
theorem fresh_new {mo n : Nat} (hm : 1 ≤ mo) : freshN mo (n + 1) 0 = 1 + freshN mo n (mo - 1) := by
  unfold freshN
  by_cases h : n < mo
  · have h1 : n - (mo - 1) = 0 := by omega
    rw [h1, Nat.zero_add, Nat.div_eq_of_lt (a := mo - 1) (by omega)]
    rw [show n + 1 - 0 + mo - 1 = n + mo by omega, Nat.add_div_right _ (by omega), Nat.div_eq_of_lt h]
  · rw [show n + 1 - 0 + mo - 1 = (n - (mo - 1) + mo - 1) + mo by omega, Nat.add_div_right _ (by omega)]
    omega
theorem fresh_old {mo n r : Nat} (hr : 0 < r) : freshN mo (n + 1) r = freshN mo n (r - 1) := by
  unfold freshN
  rw [show n + 1 - r = n - (r - 1) by omega]
theorem opens_addL {P : Pln} (hP : P.ok) : ∀ (l : List Nt) {ps : List Pst}, PsOk P ps → (∀ n ∈ l, 0 ≤ n.at_ ∧ n.at_ ≤ 3155759999) → opens (addL P.mo ps l) = opens ps + freshN P.mo l.length (roomN P.mo ps)
  | [], ps, h, _ => by
    have hm := hP.m1
    show opens ps = _
    unfold freshN
    rw [List.length_nil, Nat.zero_sub, Nat.zero_add, Nat.div_eq_of_lt (by omega)]
    rfl
  | n :: l, ps, h, hl => by
    have ih := opens_addL hP l (h.addN hP (hl n (by simp))) fun m hm => hl m (by simp [hm])
    obtain ⟨e1, e2⟩ := opens_addN hP h n
    show opens (addL P.mo (Go.Proofs.YtnkccilgbhogbaaDoor.addN P.mo ps n) l) = _
    rw [ih, e1, e2, List.length_cons]
    cases hg : gat ps with
    | none =>
      have : roomN P.mo ps = 0 := by unfold roomN; rw [hg]
      rw [this, fresh_new hP.m1]
      simp only [if_true]
      omega
    | some q =>
      rw [fresh_old (room_pos h hg).1]
      simp
end Go.Proofs.YtnkccilgbhogbaaDoor
