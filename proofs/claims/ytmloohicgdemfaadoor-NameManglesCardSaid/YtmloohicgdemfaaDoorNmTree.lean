/- Symbols as trees, and what it is that they lie in memory. No program. -/
import Derived.Test.YtmloohicgdemfaaDoorBase
import Derived.Test.YtmloohicgdemfaaDoorMem
import Derived.Test.YtmloohicgdemfaaDoorOwnMore
import Derived.Below
namespace Go.Proofs.YtmloohicgdemfaaDoor
open Go.RowKit
set_option linter.unusedVariables false
inductive Ty where
  | mk (kind : Int) (name : List (ByteArray × List Ty)) (of : List Ty)
abbrev Part := ByteArray × List Ty
def Ty.kind : Ty → Int | .mk k _ _ => k
def Ty.name : Ty → List Part | .mk _ n _ => n
def Ty.of : Ty → List Ty | .mk _ _ o => o
theorem Ty.eq_iff (a b : Ty) : a = b ↔ a.kind = b.kind ∧ a.name = b.name ∧ a.of = b.of := by
  cases a; cases b; simp [Ty.kind, Ty.name, Ty.of]
/-- The slice at A of length n reads, in w and below B, as the list l, each element by R. -/
structure SlP {α : Type} (w : World) (B : Nat) (sz : Nat) (R : α → List Value → Prop) (A : Option Addr) (n : Nat) (l : List α) : Prop where
  len : l.length = n
  cells : 0 < n → ∃ b o, A = some ⟨b, o, none⟩ ∧ b < B ∧ ∀ i a, l[i]? = some a → ∃ cs : List Value, R a cs ∧ ∀ j v, cs[j]? = some v → w.cell? ⟨b, o + i * sz + j, none⟩ = some v
section
variable {α : Type} {w w' : World} {B B' sz n : Nat} {R R' : α → List Value → Prop} {A : Option Addr} {l : List α}
theorem SlP.nil (w : World) (B sz : Nat) (R : α → List Value → Prop) (A : Option Addr) : SlP w B sz R A 0 [] := ⟨rfl, fun h => absurd h (by omega)⟩
theorem SlP.below (h : SlP w B sz R A n l) (hb : Below B w w') (hR : ∀ a, a ∈ l → ∀ cs, R a cs → R' a cs) : SlP w' B sz R' A n l := by
  refine ⟨h.len, fun hn => ?_⟩
  obtain ⟨b, o, e, hlt, hc⟩ := h.cells hn
  refine ⟨b, o, e, hlt, fun i a ha => ?_⟩
  obtain ⟨cs, h1, h2⟩ := hc i a ha
  exact ⟨cs, hR a (List.mem_of_getElem? ha) cs h1, fun j v hv => (hb.cell (p := ⟨b, o + i * sz + j, none⟩) hlt).trans (h2 j v hv)⟩
theorem SlP.more (h : SlP w B sz R A n l) (hB : B ≤ B') (hR : ∀ a, a ∈ l → ∀ cs, R a cs → R' a cs) : SlP w B' sz R' A n l := by
  refine ⟨h.len, fun hn => ?_⟩
  obtain ⟨b, o, e, hlt, hc⟩ := h.cells hn
  refine ⟨b, o, e, by omega, fun i a ha => ?_⟩
  obtain ⟨cs, h1, h2⟩ := hc i a ha
  exact ⟨cs, hR a (List.mem_of_getElem? ha) cs h1, h2⟩
theorem SlP.at_ (h : SlP w B sz R A n l) {k : Nat} (hk : k < n) :
    ∃ b o a cs, A = some ⟨b, o, none⟩ ∧ b < B ∧ l[k]? = some a ∧ R a cs ∧ ∀ j v, cs[j]? = some v → w.cell? ⟨b, o + k * sz + j, none⟩ = some v := by
  obtain ⟨b, o, e, hlt, hc⟩ := h.cells (by omega)
  have hl : k < l.length := by have := h.len; omega
  obtain ⟨cs, h1, h2⟩ := hc k _ (List.getElem?_eq_getElem hl)
  exact ⟨b, o, l[k], cs, e, hlt, List.getElem?_eq_getElem hl, h1, h2⟩
end
/-- A part's two cells. -/
def PartIn (w : World) (B : Nat) (R : Ty → List Value → Prop) (p : Part) (cs : List Value) : Prop :=
  ∃ A n cap, cs = [.string p.1, .slice A n cap] ∧ p.1.size ≤ maxLen ∧ n ≤ cap ∧ cap ≤ maxLen ∧ SlP w B 3 R A n p.2
/-- A type's three cells, k types deep. -/
def TyIn (w : World) (B : Nat) : Nat → Ty → List Value → Prop
  | 0, _, _ => False
  | k + 1, t, cs => ∃ A n cap A' n' cap', cs = [.int .i64 t.kind, .slice A n cap, .slice A' n' cap'] ∧ n ≤ cap ∧ cap ≤ maxLen ∧ n' ≤ cap' ∧ cap' ≤ maxLen ∧
      SlP w B 2 (PartIn w B (TyIn w B k)) A n t.name ∧ SlP w B 3 (TyIn w B k) A' n' t.of
theorem PartIn.below {w w' : World} {B : Nat} {R R' : Ty → List Value → Prop} {p : Part} {cs : List Value} (h : PartIn w B R p cs) (hb : Below B w w') (hR : ∀ a cs, R a cs → R' a cs) : PartIn w' B R' p cs := by
  obtain ⟨A, n, cap, e, h1, h2, h3, h4⟩ := h
  exact ⟨A, n, cap, e, h1, h2, h3, h4.below hb (fun a _ => hR a)⟩
theorem PartIn.more {w : World} {B B' : Nat} {R R' : Ty → List Value → Prop} {p : Part} {cs : List Value} (h : PartIn w B R p cs) (hb : B ≤ B') (hR : ∀ a cs, R a cs → R' a cs) : PartIn w B' R' p cs := by
  obtain ⟨A, n, cap, e, h1, h2, h3, h4⟩ := h
  exact ⟨A, n, cap, e, h1, h2, h3, h4.more hb (fun a _ => hR a)⟩
theorem TyIn.below {w w' : World} {B : Nat} (hb : Below B w w') : ∀ {k : Nat} {t : Ty} {cs : List Value}, TyIn w B k t cs → TyIn w' B k t cs
  | 0, _, _, h => h
  | k + 1, t, cs, h => by
    obtain ⟨A, n, cap, A', n', cap', e, h1, h2, h3, h4, h5, h6⟩ := h
    exact ⟨A, n, cap, A', n', cap', e, h1, h2, h3, h4, h5.below hb (fun a _ cs h => h.below hb (fun a cs h => TyIn.below hb h)), h6.below hb (fun a _ cs h => TyIn.below hb h)⟩
theorem TyIn.more {w : World} {B B' : Nat} (hb : B ≤ B') : ∀ {k : Nat} {t : Ty} {cs : List Value}, TyIn w B k t cs → TyIn w B' k t cs
  | 0, _, _, h => h
  | k + 1, t, cs, h => by
    obtain ⟨A, n, cap, A', n', cap', e, h1, h2, h3, h4, h5, h6⟩ := h
    exact ⟨A, n, cap, A', n', cap', e, h1, h2, h3, h4, h5.more hb (fun a _ cs h => h.more hb (fun a cs h => TyIn.more hb h)), h6.more hb (fun a _ cs h => TyIn.more hb h)⟩
/-- One more depth is a depth. -/
theorem TyIn.deeper {w : World} {B : Nat} : ∀ {k : Nat} {t : Ty} {cs : List Value}, TyIn w B k t cs → TyIn w B (k + 1) t cs
  | 0, _, _, h => h.elim
  | k + 1, t, cs, h => by
    obtain ⟨A, n, cap, A', n', cap', e, h1, h2, h3, h4, h5, h6⟩ := h
    exact ⟨A, n, cap, A', n', cap', e, h1, h2, h3, h4, h5.more (Nat.le_refl _) (fun a _ cs h => h.more (Nat.le_refl _) (fun a cs h => TyIn.deeper h)), h6.more (Nat.le_refl _) (fun a _ cs h => TyIn.deeper h)⟩
theorem TyIn.deep {w : World} {B k k' : Nat} {t : Ty} {cs : List Value} (h : TyIn w B k t cs) (hk : k ≤ k') : TyIn w B k' t cs := by
  induction k' with
  | zero => (obtain rfl : k = 0 := (by omega)); exact h
  | succ k' ih =>
    by_cases e : k = k' + 1
    · subst e; exact h
    · exact (ih (by omega)).deeper
/-- Lists of parts and of types, k types deep. -/
abbrev Parts (w : World) (B k : Nat) (A : Option Addr) (n : Nat) (l : List Part) : Prop := SlP w B 2 (PartIn w B (TyIn w B k)) A n l
abbrev Tys (w : World) (B k : Nat) (A : Option Addr) (n : Nat) (l : List Ty) : Prop := SlP w B 3 (TyIn w B k) A n l
section
variable {w w' : World} {B B' k k' n : Nat} {A : Option Addr}
theorem tys_below {l : List Ty} (h : Tys w B k A n l) (hb : Below B w w') : Tys w' B k A n l := SlP.below h hb (fun _ _ _ h => h.below hb)
theorem parts_below {l : List Part} (h : Parts w B k A n l) (hb : Below B w w') : Parts w' B k A n l := SlP.below h hb (fun _ _ _ h => PartIn.below h hb (fun _ _ h => h.below hb))
theorem tys_more {l : List Ty} (h : Tys w B k A n l) (hb : B ≤ B') : Tys w B' k A n l := SlP.more h hb (fun _ _ _ h => h.more hb)
theorem parts_more {l : List Part} (h : Parts w B k A n l) (hb : B ≤ B') : Parts w B' k A n l := SlP.more h hb (fun _ _ _ h => PartIn.more h hb (fun _ _ h => h.more hb))
theorem tys_deep {l : List Ty} (h : Tys w B k A n l) (hk : k ≤ k') : Tys w B k' A n l := SlP.more h (Nat.le_refl _) (fun _ _ _ h => h.deep hk)
theorem parts_deep {l : List Part} (h : Parts w B k A n l) (hk : k ≤ k') : Parts w B k' A n l := SlP.more h (Nat.le_refl _) (fun _ _ _ h => PartIn.more h (Nat.le_refl _) (fun _ _ h => h.deep hk))
end
/-- A caller's own block may turn; all other blocks stay. -/
structure ButAt (c : Nat) (w w' : World) : Prop where
  be : Below c w w'
  keep : ∀ k o, w.heap[k]? = some o → k ≠ c → w'.heap[k]? = some o
theorem ButAt.refl (c : Nat) (w : World) : ButAt c w w := ⟨Below.refl _ _, fun _ _ h _ => h⟩
theorem ButAt.trans {c : Nat} {w w1 w2 : World} (h : ButAt c w w1) (h' : ButAt c w1 w2) : ButAt c w w2 := ⟨h.be.trans h'.be, fun k o e ne => h'.keep k o (h.keep k o e ne) ne⟩
theorem ButAt.of_below {c : Nat} {w w' : World} (h : Below w.heap.size w w') (hc : c ≤ w.heap.size) : ButAt c w w' := ⟨h.mono hc, fun k o e _ => block_below e h⟩
theorem ButAt.set {c : Nat} (w : World) (i : Nat) (u : Value) : ButAt c w (w.setCell ⟨c, i, none⟩ u) := ⟨(Below.refl _ _).setCell (p := ⟨c, i, none⟩) (Nat.le_refl _) _, fun k o e ne => block_set_other e _ _ ne⟩
theorem ButAt.alloc {c : Nat} {w w' : World} (h : ButAt c w w') (hc : c ≤ w'.heap.size) (o : Obj) : ButAt c w (w'.alloc o) := h.trans (ButAt.of_below ((Below.refl _ _).alloc (Nat.le_refl _) o) hc)
/- The check of a symbol, in plain Lean: an error and the number of types so far. -/
def lettB (c : UInt8) : Bool := decide (97 ≤ c.toNat ∧ c.toNat ≤ 122) || decide (65 ≤ c.toNat ∧ c.toNat ≤ 90) || decide (c.toNat = 95)
def digB (c : UInt8) : Bool := decide (48 ≤ c.toNat ∧ c.toNat ≤ 57)
def headDig (l : List UInt8) : Bool := match l with | [] => false | c :: _ => digB c
def textE (s : ByteArray) : Int :=
  if s.size = 0 then 1 else if 60 < s.size then 4 else if headDig s.data.toList then 9 else if s.data.toList.all (fun c => lettB c || digB c) then 0 else 9
def foldE {α : Type} (f : Nat → α → Int × Nat) : List α → Nat → Int × Nat
  | [], st => (0, st)
  | a :: l, st => if (f st a).1 ≠ 0 then f st a else foldE f l (f st a).2
theorem foldE_stop {α : Type} {f : Nat → α → Int × Nat} {l : List α} {k st : Nat} {a : α} (h : l[k]? = some a) (hf : (f st a).1 ≠ 0) : foldE f (l.drop k) st = f st a := by
  have hk : k < l.length := (List.getElem?_eq_some_iff.1 h).1
  rw [List.drop_eq_getElem_cons hk, foldE]
  rw [List.getElem?_eq_getElem hk] at h
  obtain rfl := Option.some.inj h
  rw [if_pos hf]
theorem foldE_step {α : Type} {f : Nat → α → Int × Nat} {l : List α} {k st : Nat} {a : α} (h : l[k]? = some a) (hf : (f st a).1 = 0) : foldE f (l.drop k) st = foldE f (l.drop (k + 1)) (f st a).2 := by
  have hk : k < l.length := (List.getElem?_eq_some_iff.1 h).1
  rw [List.drop_eq_getElem_cons hk, foldE]
  rw [List.getElem?_eq_getElem hk] at h
  obtain rfl := Option.some.inj h
  rw [if_neg (by simpa using hf)]
theorem foldE_done {α : Type} {f : Nat → α → Int × Nat} {l : List α} {k st : Nat} (h : l.length ≤ k) : foldE f (l.drop k) st = (0, st) := by
  rw [List.drop_eq_nil_of_le h]; rfl
def chkList (f : Nat → Ty → Int × Nat) (most : Nat) (l : List Ty) (st : Nat) : Int × Nat := if most < l.length then (4, st) else foldE f l st
def chkPart (f : Nat → Ty → Int × Nat) (st : Nat) (p : Part) : Int × Nat := if textE p.1 ≠ 0 then (textE p.1, st) else chkList f 20 p.2 st
def chkName (f : Nat → Ty → Int × Nat) (l : List Part) (st : Nat) : Int × Nat := if l.length = 0 then (1, st) else if 20 < l.length then (4, st) else foldE (chkPart f) l st
def badForm (t : Ty) : Bool := decide (t.kind = 1 ∧ 0 < t.of.length) || decide (t.kind ≠ 1 ∧ 0 < t.name.length) || decide ((t.kind = 2 ∨ t.kind = 3) ∧ t.of.length ≠ 1) || decide (t.kind = 4 ∧ t.of.length = 0)
def chkTy : Nat → Nat → Ty → Int × Nat
  | 0, st, _ => (13, st)
  | f + 1, st, t =>
    if 500 < st + 1 then (4, st + 1) else if t.kind < 1 ∨ 4 < t.kind then (10, st + 1) else if badForm t then (1, st + 1)
    else if t.kind = 1 then chkName (chkTy f) t.name (st + 1) else chkList (chkTy f) 21 t.of (st + 1)
structure Sym where
  name : List Part
  takes : List Ty
def symE (s : Sym) : Int × Nat :=
  if (chkName (chkTy 12) s.name 0).1 ≠ 0 then chkName (chkTy 12) s.name 0 else chkList (chkTy 12) 20 s.takes (chkName (chkTy 12) s.name 0).2
end Go.Proofs.YtmloohicgdemfaaDoor
