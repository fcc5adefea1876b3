/- What is printed of a symbol, in plain Lean: the words, the bytes, the number of types; of a right symbol: its form, and a bound. No program. -/
import Derived.Test.YtmloohicgdemfaaDoorNmTree
namespace Go.Proofs.YtmloohicgdemfaaDoor
open Go.RowKit
set_option linter.unusedVariables false
def refB : List UInt8 := [114, 101, 102]
def listB : List UInt8 := [108, 105, 115, 116]
def funcB : List UInt8 := [102, 117, 110, 99]
/-- A word that begins a type that is no name. -/
def wordS (s : ByteArray) : Bool := decide (s.data.toList = refB) || decide (s.data.toList = listB) || decide (s.data.toList = funcB)
def headW (l : List Part) : Bool := match l with | [] => false | p :: _ => wordS p.1
/-- Whether a plain type anywhere begins with such a word. -/
def wd : Nat → Ty → Bool
  | 0, _ => false
  | f + 1, t => (decide (t.kind = 1) && headW t.name) || t.name.any (fun p => p.2.any (wd f)) || t.of.any (wd f)
def wdTys (f : Nat) (l : List Ty) : Bool := l.any (wd f)
def wdParts (f : Nat) (l : List Part) : Bool := l.any fun p => wdTys f p.2
/-- Pieces, a separator between them. -/
def sepL (c : List UInt8) : List (List UInt8) → List UInt8
  | [] => []
  | x :: r => x ++ r.flatMap fun y => c ++ y
def prPart (g : Ty → List UInt8) (p : Part) : List UInt8 := p.1.data.toList ++ (if p.2.length = 0 then [] else [60] ++ sepL [44, 32] (p.2.map g) ++ [62])
def prName (g : Ty → List UInt8) (l : List Part) : List UInt8 := sepL [46] (l.map (prPart g))
def prTys (g : Ty → List UInt8) (l : List Ty) : List UInt8 := sepL [44, 32] (l.map g)
def lastT (g : Ty → List UInt8) (l : List Ty) : List UInt8 := match l.getLast? with | none => [] | some t => g t
def headT (g : Ty → List UInt8) (l : List Ty) : List UInt8 := match l with | [] => [] | t :: _ => g t
/-- A type, printed. -/
def prT : Nat → Ty → List UInt8
  | 0, _ => []
  | f + 1, t =>
    if t.kind = 1 then prName (prT f) t.name
    else if t.kind = 4 then funcB ++ [40] ++ prTys (prT f) t.of.dropLast ++ [41, 32] ++ lastT (prT f) t.of
    else (if t.kind = 2 then refB else listB) ++ [32] ++ headT (prT f) t.of
def prSym (s : Sym) : List UInt8 := prName (prT 12) s.name ++ [40] ++ prTys (prT 12) s.takes ++ [41]
/- The number of types. -/
def sumN {α : Type} (g : α → Nat) (l : List α) : Nat := (l.map g).sum
def cnt : Nat → Ty → Nat
  | 0, _ => 0
  | f + 1, t => 1 + sumN (fun p : Part => sumN (cnt f) p.2) t.name + sumN (cnt f) t.of
def cntTys (f : Nat) (l : List Ty) : Nat := sumN (cnt f) l
def cntParts (f : Nat) (l : List Part) : Nat := sumN (fun p => cntTys f p.2) l
/-- A type without an error, at most f types deep. -/
def Good : Nat → Ty → Prop
  | 0, _ => False
  | f + 1, t => (1 ≤ t.kind ∧ t.kind ≤ 4) ∧ (t.kind = 1 → t.of = [] ∧ 1 ≤ t.name.length ∧ t.name.length ≤ 20) ∧ (t.kind ≠ 1 → t.name = [] ∧ 1 ≤ t.of.length ∧ t.of.length ≤ 21) ∧ (t.kind = 2 ∨ t.kind = 3 → t.of.length = 1) ∧
      (∀ p ∈ t.name, p.1.size ≤ 60 ∧ p.2.length ≤ 20 ∧ ∀ x ∈ p.2, Good f x) ∧ ∀ x ∈ t.of, Good f x
def GoodTys (f : Nat) (l : List Ty) : Prop := ∀ x ∈ l, Good f x
def GoodParts (f : Nat) (l : List Part) : Prop := ∀ p ∈ l, p.1.size ≤ 60 ∧ p.2.length ≤ 20 ∧ GoodTys f p.2
theorem sumN_cons {α : Type} (g : α → Nat) (a : α) (l : List α) : sumN g (a :: l) = g a + sumN g l := by simp [sumN]
theorem sumN_nil {α : Type} (g : α → Nat) : sumN g [] = 0 := rfl
theorem foldE_sum {α : Type} {f : Nat → α → Int × Nat} {g : α → Nat} {G : α → Prop} (hf : ∀ st a st', f st a = (0, st') → st' = st + g a ∧ G a) : ∀ (l : List α) (st st' : Nat), foldE f l st = (0, st') → st' = st + sumN g l ∧ ∀ a ∈ l, G a
  | [], st, st', h => by
    simp only [foldE, Prod.mk.injEq, true_and] at h
    subst h
    exact ⟨by rw [sumN_nil]; rfl, by simp⟩
  | a :: l, st, st', h => by
    unfold foldE at h
    by_cases h1 : (f st a).1 = 0
    · rw [if_neg (by simpa using h1)] at h
      obtain ⟨h2, h3⟩ := hf st a (f st a).2 (Prod.ext h1 rfl)
      obtain ⟨h4, h5⟩ := foldE_sum hf l _ _ h
      refine ⟨by rw [sumN_cons]; omega, fun x hx => ?_⟩
      rcases List.mem_cons.1 hx with rfl | hx
      · exact h3
      · exact h5 x hx
    · rw [if_pos h1] at h
      exact absurd (congrArg Prod.fst h) h1
theorem textE_size {s : ByteArray} (h : textE s = 0) : s.size ≤ 60 := by
  unfold textE at h
  split at h; · cases h
  split at h; · cases h
  omega
theorem chkList_sum {f : Nat} (ih : ∀ st t st', chkTy f st t = (0, st') → st' = st + cnt f t ∧ Good f t) {m st st' : Nat} {l : List Ty} (h : chkList (chkTy f) m l st = (0, st')) : st' = st + cntTys f l ∧ GoodTys f l ∧ l.length ≤ m := by
  unfold chkList at h
  split at h
  · cases h
  · rename_i hm
    obtain ⟨h1, h2⟩ := foldE_sum (g := cnt f) (G := Good f) ih l st st' h
    exact ⟨h1, h2, by omega⟩
theorem chkName_sum {f : Nat} (ih : ∀ st t st', chkTy f st t = (0, st') → st' = st + cnt f t ∧ Good f t) {st st' : Nat} {l : List Part} (h : chkName (chkTy f) l st = (0, st')) : st' = st + cntParts f l ∧ GoodParts f l ∧ 1 ≤ l.length ∧ l.length ≤ 20 := by
  unfold chkName at h
  split at h
  · cases h
  · split at h
    · cases h
    · obtain ⟨h1, h2⟩ := foldE_sum (f := chkPart (chkTy f)) (g := fun p : Part => cntTys f p.2) (G := fun p : Part => p.1.size ≤ 60 ∧ p.2.length ≤ 20 ∧ GoodTys f p.2) (fun st p st' hp => by
        unfold chkPart at hp
        split at hp
        · rename_i hne; exact absurd (congrArg Prod.fst hp) hne
        · rename_i hte
          obtain ⟨a, b, c⟩ := chkList_sum ih hp
          exact ⟨a, textE_size (by simpa using hte), c, b⟩) l st st' h
      exact ⟨h1, h2, by omega, by omega⟩
theorem chkTy_sum : ∀ (f st : Nat) (t : Ty) (st' : Nat), chkTy f st t = (0, st') → st' = st + cnt f t ∧ Good f t
  | 0, st, t, st', h => by cases h
  | f + 1, st, t, st', h => by
    unfold chkTy at h
    split at h; · cases h
    split at h; · cases h
    rename_i hk
    split at h; · cases h
    rename_i hb
    simp only [badForm, Bool.or_eq_true, decide_eq_true_eq, not_or, not_and] at hb
    obtain ⟨⟨⟨b1, b2⟩, b3⟩, b4⟩ := hb
    split at h
    · rename_i h1
      obtain ⟨c1, c2, c3, c4⟩ := chkName_sum (chkTy_sum f) h
      have ho : t.of = [] := List.length_eq_zero_iff.1 (by have := b1 h1; omega)
      refine ⟨?_, ⟨by omega, by omega⟩, fun _ => ⟨ho, c3, c4⟩, fun h2 => absurd h1 h2, fun h2 => by omega, c2, by rw [ho]; simp⟩
      unfold cnt
      rw [ho, sumN_nil]
      unfold cntParts cntTys at c1
      omega
    · rename_i h1
      obtain ⟨c1, c2, c3⟩ := chkList_sum (chkTy_sum f) h
      have hn : t.name = [] := List.length_eq_zero_iff.1 (by have := b2 h1; omega)
      have hp : 1 ≤ t.of.length := by
        rcases (show t.kind = 2 ∨ t.kind = 3 ∨ t.kind = 4 by omega) with e | e | e
        · have := b3 (.inl e); omega
        · have := b3 (.inr e); omega
        · have := b4 e; omega
      refine ⟨?_, ⟨by omega, by omega⟩, fun h2 => absurd h2 h1, fun _ => ⟨hn, hp, c3⟩, fun h2 => by have := b3 h2; omega, by rw [hn]; simp, c2⟩
      unfold cnt
      rw [hn, sumN_nil]
      unfold cntTys at c1
      omega
theorem sym_good {s : Sym} (h : (symE s).1 = 0) : GoodParts 12 s.name ∧ 1 ≤ s.name.length ∧ s.name.length ≤ 20 ∧ GoodTys 12 s.takes ∧ s.takes.length ≤ 20 ∧ cntParts 12 s.name + cntTys 12 s.takes = (symE s).2 := by
  have h0 := h
  unfold symE at h0
  by_cases h1 : (chkName (chkTy 12) s.name 0).1 = 0
  · rw [if_neg (by simpa using h1)] at h0
    obtain ⟨a, b, c, d⟩ := chkName_sum (chkTy_sum 12) (st := 0) (l := s.name) (st' := (chkName (chkTy 12) s.name 0).2) (Prod.ext h1 rfl)
    obtain ⟨e, g, i⟩ := chkList_sum (chkTy_sum 12) (m := 20) (l := s.takes) (st' := (chkList (chkTy 12) 20 s.takes (chkName (chkTy 12) s.name 0).2).2) (Prod.ext h0 rfl)
    refine ⟨b, c, d, g, i, ?_⟩
    have hs : (symE s).2 = (chkList (chkTy 12) 20 s.takes (chkName (chkTy 12) s.name 0).2).2 := by unfold symE; rw [if_neg (by simpa using h1)]
    omega
  · rw [if_pos h1] at h0; exact absurd h0 h1
/- The length of what is printed. -/
theorem sepL_len (c : List UInt8) (l : List (List UInt8)) : (sepL c l).length ≤ sumN (fun x => x.length + c.length) l := by
  cases l with
  | nil => simp [sepL, sumN]
  | cons x r =>
    have h : ∀ r : List (List UInt8), (r.flatMap fun y => c ++ y).length = sumN (fun x => x.length + c.length) r := by
      intro r
      induction r with
      | nil => rfl
      | cons y r ih => rw [List.flatMap_cons, List.length_append, List.length_append, ih, sumN_cons]; omega
    rw [sepL, List.length_append, h, sumN_cons]; omega
theorem sumN_le {α : Type} {g g' : α → Nat} {l : List α} (h : ∀ a ∈ l, g a ≤ g' a) : sumN g l ≤ sumN g' l := by
  induction l with
  | nil => exact Nat.le_refl _
  | cons a l ih =>
    rw [sumN_cons, sumN_cons]
    have := h a (List.mem_cons_self ..)
    have := ih (fun x hx => h x (List.mem_cons_of_mem _ hx))
    omega
theorem sumN_map {α β : Type} (g : β → Nat) (f : α → β) (l : List α) : sumN g (l.map f) = sumN (fun a => g (f a)) l := by simp [sumN, Function.comp_def]
theorem sumN_mul {α : Type} (g : α → Nat) (k : Nat) (l : List α) : sumN (fun a => k * g a) l = k * sumN g l := by
  induction l with
  | nil => simp [sumN]
  | cons a l ih => rw [sumN_cons, sumN_cons, ih, Nat.mul_add]
theorem sumN_add {α : Type} (g : α → Nat) (k : Nat) (l : List α) : sumN (fun a => k + g a) l = k * l.length + sumN g l := by
  induction l with
  | nil => simp [sumN]
  | cons a l ih => rw [sumN_cons, sumN_cons, ih, List.length_cons, Nat.mul_add]; omega
theorem prTys_len {f : Nat} {l : List Ty} (h : ∀ t ∈ l, (prT f t).length + 2 ≤ 1400 * cnt f t) : (prTys (prT f) l).length ≤ 1400 * cntTys f l := by
  unfold prTys cntTys
  refine Nat.le_trans (sepL_len _ _) ?_
  rw [sumN_map, ← sumN_mul]
  exact sumN_le h
theorem prName_len {f : Nat} {l : List Part} (h : ∀ p ∈ l, p.1.size ≤ 60 ∧ ∀ t ∈ p.2, (prT f t).length + 2 ≤ 1400 * cnt f t) (hl : l.length ≤ 20) : (prName (prT f) l).length ≤ 1280 + 1400 * cntParts f l := by
  unfold prName cntParts
  refine Nat.le_trans (sepL_len _ _) ?_
  rw [sumN_map, ← sumN_mul]
  refine Nat.le_trans (sumN_le (g' := fun p : Part => 63 + 1400 * cntTys f p.2) (fun p hp => ?_)) (by rw [sumN_add]; omega)
  obtain ⟨h1, h2⟩ := h p hp
  have h3 := prTys_len (l := p.2) h2
  unfold prTys at h3
  unfold prPart
  have hs : p.1.data.toList.length = p.1.size := by simp
  split <;> simp only [List.length_append, List.length_cons, List.length_nil] <;> omega
theorem cnt_mem {f : Nat} {l : List Ty} {t : Ty} (h : t ∈ l) : cnt f t ≤ cntTys f l := by
  unfold cntTys
  induction l with
  | nil => cases h
  | cons a l ih =>
    rw [sumN_cons]
    rcases List.mem_cons.1 h with rfl | h
    · omega
    · have := ih h; omega
theorem cntTys_append (f : Nat) (a b : List Ty) : cntTys f (a ++ b) = cntTys f a + cntTys f b := by simp [cntTys, sumN]
theorem prT_len : ∀ (f : Nat) (t : Ty), Good f t → (prT f t).length + 2 ≤ 1400 * cnt f t
  | 0, _, h => h.elim
  | f + 1, t, h => by
    obtain ⟨hk, h1, h2, h3, h4, h5⟩ := h
    unfold prT cnt
    by_cases e : t.kind = 1
    · rw [if_pos e]
      have := prName_len (f := f) (l := t.name) (fun p hp => ⟨(h4 p hp).1, fun x hx => prT_len f x ((h4 p hp).2.2 x hx)⟩) (h1 e).2.2
      unfold cntParts cntTys at this
      omega
    · rw [if_neg e]
      obtain ⟨hn, hp, hq⟩ := h2 e
      by_cases e4 : t.kind = 4
      · rw [if_pos e4]
        have hne : t.of ≠ [] := fun e => by rw [e] at hp; simp at hp
        have hsp := List.dropLast_concat_getLast hne
        have hl : lastT (prT f) t.of = prT f (t.of.getLast hne) := by unfold lastT; rw [List.getLast?_eq_some_getLast hne]
        have a1 := prTys_len (f := f) (l := t.of.dropLast) (fun x hx => prT_len f x (h5 x ((List.dropLast_sublist _).subset hx)))
        have a2 := prT_len f _ (h5 _ (List.getLast_mem hne))
        have a3 : cntTys f t.of = cntTys f t.of.dropLast + cnt f (t.of.getLast hne) := by
          conv => lhs; rw [← hsp]
          rw [cntTys_append]; simp [cntTys, sumN]
        rw [hl]
        unfold cntTys at a3 a1
        simp only [List.length_append, List.length_cons, List.length_nil, funcB]
        omega
      · rw [if_neg e4]
        have hone := h3 (by omega)
        match hof : t.of, hone with
        | [x], _ =>
          have a1 := prT_len f x (h5 x (by rw [hof]; simp))
          have : sumN (cnt f) [x] = cnt f x := by simp [sumN]
          rw [this]
          unfold headT
          simp only [List.length_append, List.length_cons, List.length_nil]
          split <;> simp only [refB, listB, List.length_cons, List.length_nil] <;> omega
theorem prSym_len {s : Sym} (h : (symE s).1 = 0) (h5 : (symE s).2 ≤ 500) : (prSym s).length ≤ 1000000 := by
  obtain ⟨a, b, c, d, e, g⟩ := sym_good h
  have h1 := prName_len (f := 12) (l := s.name) (fun p hp => ⟨(a p hp).1, fun x hx => prT_len 12 x ((a p hp).2.2 x hx)⟩) c
  have h2 := prTys_len (f := 12) (l := s.takes) (fun x hx => prT_len 12 x (d x hx))
  unfold prSym
  simp only [List.length_append, List.length_cons, List.length_nil]
  omega
end Go.Proofs.YtmloohicgdemfaaDoor
