/- NmPrL, NmMgL, NmMgM, NmPaL, NmDmL, NmDmK: texts of one's own, in one file. -/
import Derived.Test.YtocpmbpckbjepaaDoorNmGA
import Derived.Test.YtocpmbpckbjepaaDoorNmSame
import Derived.Test.YtocpmbpckbjepaaDoorNmText
/- What is printed of a symbol, in plain Lean: the words, the bytes, the number of types; of a right symbol: its form, and a bound. No program. -/
namespace Go.Proofs.YtocpmbpckbjepaaDoor
open Go.RowKit
set_option linter.unusedVariables false
def refB : List UInt8 := [114, 101, 102]
def listB : List UInt8 := [108, 105, 115, 116]
def funcB : List UInt8 := [102, 117, 110, 99]
/-- A word that begins a type that is no name. -/
def wordS (s : ByteArray) : Bool := decide (s.data.toList = refB) || decide (s.data.toList = listB) || decide (s.data.toList = funcB)
def headW (l : List Part) : Bool := match l with | [] => false | p :: _ => wordS p.1
/-- Whether a plain type anywhere begins with such a word. -/
def wd : Nat → Ty → Bool
  | 0, _ => false
  | f + 1, t => (decide (t.kind = 1) && headW t.name) || t.name.any (fun p => p.2.any (wd f)) || t.of.any (wd f)
def wdTys (f : Nat) (l : List Ty) : Bool := l.any (wd f)
def wdParts (f : Nat) (l : List Part) : Bool := l.any fun p => wdTys f p.2
/-- Pieces, a separator between them. -/
def sepL (c : List UInt8) : List (List UInt8) → List UInt8
  | [] => []
  | x :: r => x ++ r.flatMap fun y => c ++ y
def prPart (g : Ty → List UInt8) (p : Part) : List UInt8 := p.1.data.toList ++ (if p.2.length = 0 then [] else [60] ++ sepL [44, 32] (p.2.map g) ++ [62])
def prName (g : Ty → List UInt8) (l : List Part) : List UInt8 := sepL [46] (l.map (prPart g))
def prTys (g : Ty → List UInt8) (l : List Ty) : List UInt8 := sepL [44, 32] (l.map g)
def lastT (g : Ty → List UInt8) (l : List Ty) : List UInt8 := match l.getLast? with | none => [] | some t => g t
def headT (g : Ty → List UInt8) (l : List Ty) : List UInt8 := match l with | [] => [] | t :: _ => g t
/-- A type, printed. -/
def prT : Nat → Ty → List UInt8
  | 0, _ => []
  | f + 1, t =>
    if t.kind = 1 then prName (prT f) t.name
    else if t.kind = 4 then funcB ++ [40] ++ prTys (prT f) t.of.dropLast ++ [41, 32] ++ lastT (prT f) t.of
    else (if t.kind = 2 then refB else listB) ++ [32] ++ headT (prT f) t.of
def prSym (s : Sym) : List UInt8 := prName (prT 12) s.name ++ [40] ++ prTys (prT 12) s.takes ++ [41]
/- The number of types. -/
def sumN {α : Type} (g : α → Nat) (l : List α) : Nat := (l.map g).sum
def cnt : Nat → Ty → Nat
  | 0, _ => 0
  | f + 1, t => 1 + sumN (fun p : Part => sumN (cnt f) p.2) t.name + sumN (cnt f) t.of
def cntTys (f : Nat) (l : List Ty) : Nat := sumN (cnt f) l
def cntParts (f : Nat) (l : List Part) : Nat := sumN (fun p => cntTys f p.2) l
/-- A type without an error, at most f types deep. -/
def Good : Nat → Ty → Prop
  | 0, _ => False
  | f + 1, t => (1 ≤ t.kind ∧ t.kind ≤ 4) ∧ (t.kind = 1 → t.of = [] ∧ 1 ≤ t.name.length ∧ t.name.length ≤ 20) ∧ (t.kind ≠ 1 → t.name = [] ∧ 1 ≤ t.of.length ∧ t.of.length ≤ 21) ∧ (t.kind = 2 ∨ t.kind = 3 → t.of.length = 1) ∧
      (∀ p ∈ t.name, p.1.size ≤ 60 ∧ p.2.length ≤ 20 ∧ ∀ x ∈ p.2, Good f x) ∧ ∀ x ∈ t.of, Good f x
def GoodTys (f : Nat) (l : List Ty) : Prop := ∀ x ∈ l, Good f x
def GoodParts (f : Nat) (l : List Part) : Prop := ∀ p ∈ l, p.1.size ≤ 60 ∧ p.2.length ≤ 20 ∧ GoodTys f p.2
theorem sumN_cons {α : Type} (g : α → Nat) (a : α) (l : List α) : sumN g (a :: l) = g a + sumN g l := by simp [sumN]
theorem sumN_nil {α : Type} (g : α → Nat) : sumN g [] = 0 := rfl
theorem foldE_sum {α : Type} {f : Nat → α → Int × Nat} {g : α → Nat} {G : α → Prop} (hf : ∀ st a st', f st a = (0, st') → st' = st + g a ∧ G a) : ∀ (l : List α) (st st' : Nat), foldE f l st = (0, st') → st' = st + sumN g l ∧ ∀ a ∈ l, G a
  | [], st, st', h => by
    simp only [foldE, Prod.mk.injEq, true_and] at h
    subst h
    exact ⟨by rw [sumN_nil]; rfl, by simp⟩
  | a :: l, st, st', h => by
    unfold foldE at h
    by_cases h1 : (f st a).1 = 0
    · rw [if_neg (by simpa using h1)] at h
      obtain ⟨h2, h3⟩ := hf st a (f st a).2 (Prod.ext h1 rfl)
      obtain ⟨h4, h5⟩ := foldE_sum hf l _ _ h
      refine ⟨by rw [sumN_cons]; omega, fun x hx => ?_⟩
      rcases List.mem_cons.1 hx with rfl | hx
      · exact h3
      · exact h5 x hx
    · rw [if_pos h1] at h
      exact absurd (congrArg Prod.fst h) h1
theorem textE_size {s : ByteArray} (h : textE s = 0) : s.size ≤ 60 := by
  unfold textE at h
  split at h; · cases h
  split at h; · cases h
  omega
theorem chkList_sum {f : Nat} (ih : ∀ st t st', chkTy f st t = (0, st') → st' = st + cnt f t ∧ Good f t) {m st st' : Nat} {l : List Ty} (h : chkList (chkTy f) m l st = (0, st')) : st' = st + cntTys f l ∧ GoodTys f l ∧ l.length ≤ m := by
  unfold chkList at h
  split at h
  · cases h
  · rename_i hm
    obtain ⟨h1, h2⟩ := foldE_sum (g := cnt f) (G := Good f) ih l st st' h
    exact ⟨h1, h2, by omega⟩
theorem chkName_sum {f : Nat} (ih : ∀ st t st', chkTy f st t = (0, st') → st' = st + cnt f t ∧ Good f t) {st st' : Nat} {l : List Part} (h : chkName (chkTy f) l st = (0, st')) : st' = st + cntParts f l ∧ GoodParts f l ∧ 1 ≤ l.length ∧ l.length ≤ 20 := by
  unfold chkName at h
  split at h
  · cases h
  · split at h
    · cases h
    · obtain ⟨h1, h2⟩ := foldE_sum (f := chkPart (chkTy f)) (g := fun p : Part => cntTys f p.2) (G := fun p : Part => p.1.size ≤ 60 ∧ p.2.length ≤ 20 ∧ GoodTys f p.2) (fun st p st' hp => by
        unfold chkPart at hp
        split at hp
        · rename_i hne; exact absurd (congrArg Prod.fst hp) hne
        · rename_i hte
          obtain ⟨a, b, c⟩ := chkList_sum ih hp
          exact ⟨a, textE_size (by simpa using hte), c, b⟩) l st st' h
      exact ⟨h1, h2, by omega, by omega⟩
theorem chkTy_sum : ∀ (f st : Nat) (t : Ty) (st' : Nat), chkTy f st t = (0, st') → st' = st + cnt f t ∧ Good f t
  | 0, st, t, st', h => by cases h
  | f + 1, st, t, st', h => by
    unfold chkTy at h
    split at h; · cases h
    split at h; · cases h
    rename_i hk
    split at h; · cases h
    rename_i hb
    simp only [badForm, Bool.or_eq_true, decide_eq_true_eq, not_or, not_and] at hb
    obtain ⟨⟨⟨b1, b2⟩, b3⟩, b4⟩ := hb
    split at h
    · rename_i h1
      obtain ⟨c1, c2, c3, c4⟩ := chkName_sum (chkTy_sum f) h
      have ho : t.of = [] := List.length_eq_zero_iff.1 (by have := b1 h1; omega)
      refine ⟨?_, ⟨by omega, by omega⟩, fun _ => ⟨ho, c3, c4⟩, fun h2 => absurd h1 h2, fun h2 => by omega, c2, by rw [ho]; simp⟩
      unfold cnt
      rw [ho, sumN_nil]
      unfold cntParts cntTys at c1
      omega
    · rename_i h1
      obtain ⟨c1, c2, c3⟩ := chkList_sum (chkTy_sum f) h
      have hn : t.name = [] := List.length_eq_zero_iff.1 (by have := b2 h1; omega)
      have hp : 1 ≤ t.of.length := by
        rcases (show t.kind = 2 ∨ t.kind = 3 ∨ t.kind = 4 by omega) with e | e | e
        · have := b3 (.inl e); omega
        · have := b3 (.inr e); omega
        · have := b4 e; omega
      refine ⟨?_, ⟨by omega, by omega⟩, fun h2 => absurd h2 h1, fun _ => ⟨hn, hp, c3⟩, fun h2 => by have := b3 h2; omega, by rw [hn]; simp, c2⟩
      unfold cnt
      rw [hn, sumN_nil]
      unfold cntTys at c1
      omega
theorem sym_good {s : Sym} (h : (symE s).1 = 0) : GoodParts 12 s.name ∧ 1 ≤ s.name.length ∧ s.name.length ≤ 20 ∧ GoodTys 12 s.takes ∧ s.takes.length ≤ 20 ∧ cntParts 12 s.name + cntTys 12 s.takes = (symE s).2 := by
  have h0 := h
  unfold symE at h0
  by_cases h1 : (chkName (chkTy 12) s.name 0).1 = 0
  · rw [if_neg (by simpa using h1)] at h0
    obtain ⟨a, b, c, d⟩ := chkName_sum (chkTy_sum 12) (st := 0) (l := s.name) (st' := (chkName (chkTy 12) s.name 0).2) (Prod.ext h1 rfl)
    obtain ⟨e, g, i⟩ := chkList_sum (chkTy_sum 12) (m := 20) (l := s.takes) (st' := (chkList (chkTy 12) 20 s.takes (chkName (chkTy 12) s.name 0).2).2) (Prod.ext h0 rfl)
    refine ⟨b, c, d, g, i, ?_⟩
    have hs : (symE s).2 = (chkList (chkTy 12) 20 s.takes (chkName (chkTy 12) s.name 0).2).2 := by unfold symE; rw [if_neg (by simpa using h1)]
    omega
  · rw [if_pos h1] at h0; exact absurd h0 h1
/- The length of what is printed. -/
theorem sepL_len (c : List UInt8) (l : List (List UInt8)) : (sepL c l).length ≤ sumN (fun x => x.length + c.length) l := by
  cases l with
  | nil => simp [sepL, sumN]
  | cons x r =>
    have h : ∀ r : List (List UInt8), (r.flatMap fun y => c ++ y).length = sumN (fun x => x.length + c.length) r := by
      intro r
      induction r with
      | nil => rfl
      | cons y r ih => rw [List.flatMap_cons, List.length_append, List.length_append, ih, sumN_cons]; omega
    rw [sepL, List.length_append, h, sumN_cons]; omega
theorem sumN_le {α : Type} {g g' : α → Nat} {l : List α} (h : ∀ a ∈ l, g a ≤ g' a) : sumN g l ≤ sumN g' l := by
  induction l with
  | nil => exact Nat.le_refl _
  | cons a l ih =>
    rw [sumN_cons, sumN_cons]
    have := h a (List.mem_cons_self ..)
    have := ih (fun x hx => h x (List.mem_cons_of_mem _ hx))
    omega
theorem sumN_map {α β : Type} (g : β → Nat) (f : α → β) (l : List α) : sumN g (l.map f) = sumN (fun a => g (f a)) l := by simp [sumN, Function.comp_def]
theorem sumN_mul {α : Type} (g : α → Nat) (k : Nat) (l : List α) : sumN (fun a => k * g a) l = k * sumN g l := by
  induction l with
  | nil => simp [sumN]
  | cons a l ih => rw [sumN_cons, sumN_cons, ih, Nat.mul_add]
theorem sumN_add {α : Type} (g : α → Nat) (k : Nat) (l : List α) : sumN (fun a => k + g a) l = k * l.length + sumN g l := by
  induction l with
  | nil => simp [sumN]
  | cons a l ih => rw [sumN_cons, sumN_cons, ih, List.length_cons, Nat.mul_add]; omega
theorem prTys_len {f : Nat} {l : List Ty} (h : ∀ t ∈ l, (prT f t).length + 2 ≤ 1400 * cnt f t) : (prTys (prT f) l).length ≤ 1400 * cntTys f l := by
  unfold prTys cntTys
  refine Nat.le_trans (sepL_len _ _) ?_
  rw [sumN_map, ← sumN_mul]
  exact sumN_le h
theorem prName_len {f : Nat} {l : List Part} (h : ∀ p ∈ l, p.1.size ≤ 60 ∧ ∀ t ∈ p.2, (prT f t).length + 2 ≤ 1400 * cnt f t) (hl : l.length ≤ 20) : (prName (prT f) l).length ≤ 1280 + 1400 * cntParts f l := by
  unfold prName cntParts
  refine Nat.le_trans (sepL_len _ _) ?_
  rw [sumN_map, ← sumN_mul]
  refine Nat.le_trans (sumN_le (g' := fun p : Part => 63 + 1400 * cntTys f p.2) (fun p hp => ?_)) (by rw [sumN_add]; omega)
  obtain ⟨h1, h2⟩ := h p hp
  have h3 := prTys_len (l := p.2) h2
  unfold prTys at h3
  unfold prPart
  have hs : p.1.data.toList.length = p.1.size := by simp
  split <;> simp only [List.length_append, List.length_cons, List.length_nil] <;> omega
theorem cnt_mem {f : Nat} {l : List Ty} {t : Ty} (h : t ∈ l) : cnt f t ≤ cntTys f l := by
  unfold cntTys
  induction l with
  | nil => cases h
  | cons a l ih =>
    rw [sumN_cons]
    rcases List.mem_cons.1 h with rfl | h
    · omega
    · have := ih h; omega
theorem cntTys_append (f : Nat) (a b : List Ty) : cntTys f (a ++ b) = cntTys f a + cntTys f b := by simp [cntTys, sumN]
theorem prT_len : ∀ (f : Nat) (t : Ty), Good f t → (prT f t).length + 2 ≤ 1400 * cnt f t
  | 0, _, h => h.elim
  | f + 1, t, h => by
    obtain ⟨hk, h1, h2, h3, h4, h5⟩ := h
    unfold prT cnt
    by_cases e : t.kind = 1
    · rw [if_pos e]
      have := prName_len (f := f) (l := t.name) (fun p hp => ⟨(h4 p hp).1, fun x hx => prT_len f x ((h4 p hp).2.2 x hx)⟩) (h1 e).2.2
      unfold cntParts cntTys at this
      omega
    · rw [if_neg e]
      obtain ⟨hn, hp, hq⟩ := h2 e
      by_cases e4 : t.kind = 4
      · rw [if_pos e4]
        have hne : t.of ≠ [] := fun e => by rw [e] at hp; simp at hp
        have hsp := List.dropLast_concat_getLast hne
        have hl : lastT (prT f) t.of = prT f (t.of.getLast hne) := by unfold lastT; rw [List.getLast?_eq_some_getLast hne]
        have a1 := prTys_len (f := f) (l := t.of.dropLast) (fun x hx => prT_len f x (h5 x ((List.dropLast_sublist _).subset hx)))
        have a2 := prT_len f _ (h5 _ (List.getLast_mem hne))
        have a3 : cntTys f t.of = cntTys f t.of.dropLast + cnt f (t.of.getLast hne) := by
          conv => lhs; rw [← hsp]
          rw [cntTys_append]; simp [cntTys, sumN]
        rw [hl]
        unfold cntTys at a3 a1
        simp only [List.length_append, List.length_cons, List.length_nil, funcB]
        omega
      · rw [if_neg e4]
        have hone := h3 (by omega)
        match hof : t.of, hone with
        | [x], _ =>
          have a1 := prT_len f x (h5 x (by rw [hof]; simp))
          have : sumN (cnt f) [x] = cnt f x := by simp [sumN]
          rw [this]
          unfold headT
          simp only [List.length_append, List.length_cons, List.length_nil]
          split <;> simp only [refB, listB, List.length_cons, List.length_nil] <;> omega
theorem prSym_len {s : Sym} (h : (symE s).1 = 0) (h5 : (symE s).2 ≤ 500) : (prSym s).length ≤ 1000000 := by
  obtain ⟨a, b, c, d, e, g⟩ := sym_good h
  have h1 := prName_len (f := 12) (l := s.name) (fun p hp => ⟨(a p hp).1, fun x hx => prT_len 12 x ((a p hp).2.2 x hx)⟩) c
  have h2 := prTys_len (f := 12) (l := s.takes) (fun x hx => prT_len 12 x (d x hx))
  unfold prSym
  simp only [List.length_append, List.length_cons, List.length_nil]
  omega
end Go.Proofs.YtocpmbpckbjepaaDoor

/- Plain law of Mangle: what a type would be if all of it were written out tells the type. -/
namespace Go.Proofs.YtocpmbpckbjepaaDoor
open Go.RowKit
set_option linter.unusedVariables false
set_option linter.unusedSimpArgs false
/-- The length of a text, in digits. -/
def lenL (s : ByteArray) : List UInt8 := toldL (s.size : Int)
def kyPart (g : Ty → List UInt8) (p : Part) : List UInt8 := lenL p.1 ++ (p.1.data.toList ++ (if p.2.length = 0 then [] else 73 :: (p.2.flatMap g ++ [69])))
/-- A type, written out. -/
def kyT : Nat → Ty → List UInt8
  | 0, _ => []
  | f + 1, t => if t.kind = 1 then 78 :: (t.name.flatMap (kyPart (kyT f)) ++ [69]) else if t.kind = 4 then 70 :: (t.of.flatMap (kyT f) ++ [69]) else (if t.kind = 2 then 82 else 76) :: headT (kyT f) t.of
/-- All texts of a type are right. -/
def Txt : Nat → Ty → Prop
  | 0, _ => False
  | f + 1, t => (∀ p ∈ t.name, textE p.1 = 0 ∧ ∀ x ∈ p.2, Txt f x) ∧ ∀ x ∈ t.of, Txt f x
theorem foldE_all {α : Type} {f : Nat → α → Int × Nat} {G : α → Prop} (hf : ∀ st a st', f st a = (0, st') → G a) : ∀ (l : List α) (st st' : Nat), foldE f l st = (0, st') → ∀ a ∈ l, G a
  | [], _, _, _, a, ha => by cases ha
  | x :: l, st, st', h, a, ha => by
    unfold foldE at h
    split at h
    · rename_i hne
      rw [h] at hne; exact absurd rfl hne
    · rename_i h0
      have h0 : (f st x).1 = 0 := by simpa using h0
      rcases List.mem_cons.1 ha with rfl | ha
      · exact hf st a (f st a).2 (Prod.ext h0 rfl)
      · exact foldE_all hf l _ _ h a ha
theorem chkName_txt {f : Nat} (ih : ∀ st t st', chkTy f st t = (0, st') → Txt f t) {st st' : Nat} {l : List Part} (h : chkName (chkTy f) l st = (0, st')) : ∀ p ∈ l, textE p.1 = 0 ∧ ∀ x ∈ p.2, Txt f x := by
  unfold chkName at h
  split at h; · cases h
  split at h; · cases h
  refine foldE_all (G := fun p : Part => textE p.1 = 0 ∧ ∀ x ∈ p.2, Txt f x) (fun st p st' hp => ?_) l _ _ h
  unfold chkPart at hp
  split at hp
  · rename_i hne
    rw [Prod.mk.injEq] at hp; exact absurd hp.1 hne
  · rename_i h0
    have h0 : textE p.1 = 0 := by simpa using h0
    unfold chkList at hp
    split at hp; · cases hp
    exact ⟨h0, foldE_all (G := Txt f) ih _ _ _ hp⟩
theorem chkTy_txt : ∀ (f st : Nat) (t : Ty) (st' : Nat), chkTy f st t = (0, st') → Txt f t
  | 0, _, _, _, h => by cases h
  | f + 1, st, t, st', h => by
    unfold chkTy at h
    split at h; · cases h
    split at h; · cases h
    rename_i hk
    split at h; · cases h
    rename_i hb
    simp only [badForm, Bool.or_eq_true, decide_eq_true_eq, not_or, not_and] at hb
    obtain ⟨⟨⟨b1, b2⟩, b3⟩, b4⟩ := hb
    split at h
    · rename_i h1
      have ho : t.of = [] := List.length_eq_zero_iff.1 (by have := b1 h1; omega)
      exact ⟨chkName_txt (chkTy_txt f) h, by rw [ho]; simp⟩
    · rename_i h1
      have hn : t.name = [] := List.length_eq_zero_iff.1 (by have := b2 h1; omega)
      unfold chkList at h
      split at h; · cases h
      exact ⟨by rw [hn]; simp, foldE_all (G := Txt f) (chkTy_txt f) _ _ _ h⟩
theorem sym_txt {s : Sym} (h : (symE s).1 = 0) : (∀ p ∈ s.name, textE p.1 = 0 ∧ ∀ x ∈ p.2, Txt 12 x) ∧ ∀ x ∈ s.takes, Txt 12 x := by
  have h0 := h
  unfold symE at h0
  by_cases h1 : (chkName (chkTy 12) s.name 0).1 = 0
  · rw [if_neg (by simpa using h1)] at h0
    refine ⟨chkName_txt (chkTy_txt 12) (st := 0) (st' := (chkName (chkTy 12) s.name 0).2) (Prod.ext h1 rfl), ?_⟩
    unfold chkList at h0
    split at h0; · cases h0
    exact foldE_all (G := Txt 12) (chkTy_txt 12) _ _ _ (Prod.ext h0 rfl)
  · rw [if_pos h1] at h0; exact absurd h0 h1
/- Digits. -/
theorem hexc_dig {u : Nat} (h : u < 10) : digB (hexc u) = true := by
  have : ∀ u, u < 10 → digB (hexc u) = true := by decide
  exact this u h
theorem hexc_inj {u v : Nat} (hu : u < 10) (hv : v < 10) (h : hexc u = hexc v) : u = v := by
  have : ∀ u, u < 10 → ∀ v, v < 10 → hexc u = hexc v → u = v := by decide
  exact this u hu v hv h
theorem digs_ne (u : Nat) : digs 10 u ≠ [] := by
  by_cases h : u < 10
  · rw [digs_small h]; simp
  · rw [digs_big (by omega) (by decide)]; simp
theorem digs_dig (u : Nat) : ∀ c ∈ digs 10 u, digB c = true := by
  induction u using Nat.strongRecOn with
  | ind u ih =>
    intro c hc
    by_cases h : u < 10
    · rw [digs_small h] at hc
      obtain rfl := List.mem_singleton.1 hc
      exact hexc_dig h
    · rw [digs_big (by omega) (by decide)] at hc
      rcases List.mem_append.1 hc with hc | hc
      · exact ih (u / 10) (by omega) c hc
      · obtain rfl := List.mem_singleton.1 hc
        exact hexc_dig (by omega)
theorem digs_inj (u : Nat) : ∀ v, digs 10 u = digs 10 v → u = v := by
  induction u using Nat.strongRecOn with
  | ind u ih =>
    intro v h
    by_cases hu : u < 10 <;> by_cases hv : v < 10
    · rw [digs_small hu, digs_small hv] at h
      exact hexc_inj hu hv (by simpa using h)
    · rw [digs_small hu, digs_big (b := 10) (u := v) (by omega) (by decide)] at h
      have h1 := congrArg List.length h
      have h2 := List.length_pos_iff.2 (digs_ne (v / 10))
      simp at h1; simp [h1] at h2
    · rw [digs_small hv, digs_big (b := 10) (u := u) (by omega) (by decide)] at h
      have h1 := congrArg List.length h
      have h2 := List.length_pos_iff.2 (digs_ne (u / 10))
      simp at h1; simp [h1] at h2
    · rw [digs_big (b := 10) (u := u) (by omega) (by decide), digs_big (b := 10) (u := v) (by omega) (by decide)] at h
      obtain ⟨h1, h2⟩ := List.append_inj' h rfl
      have := ih (u / 10) (by omega) (v / 10) h1
      have := hexc_inj (by omega) (by omega) (show hexc (u % 10) = hexc (v % 10) by simpa using h2)
      omega
theorem lenL_dig (s : ByteArray) : ∀ c ∈ lenL s, digB c = true := digs_dig _
theorem lenL_inj {s s' : ByteArray} (h : lenL s = lenL s') : s.size = s'.size := by
  have := digs_inj _ _ h
  omega
theorem lenL_cons (s : ByteArray) : ∃ c r, lenL s = c :: r ∧ digB c = true := by
  cases h : lenL s with
  | nil => exact absurd h (digs_ne _)
  | cons c r => exact ⟨c, r, rfl, lenL_dig s c (by rw [h]; simp)⟩
theorem dig_split {r1 r2 : List UInt8} (hr1 : ∀ c, r1.head? = some c → digB c = false) (hr2 : ∀ c, r2.head? = some c → digB c = false) : ∀ (d1 d2 : List UInt8), (∀ c ∈ d1, digB c = true) → (∀ c ∈ d2, digB c = true) → d1 ++ r1 = d2 ++ r2 → d1 = d2 ∧ r1 = r2
  | [], [], _, _, h => ⟨rfl, h⟩
  | [], c :: d2, _, h2, h => by
    have h3 := hr1 c (by rw [show r1 = c :: (d2 ++ r2) from h]; rfl)
    rw [h2 c (by simp)] at h3; cases h3
  | c :: d1, [], h1, _, h => by
    have h3 := hr2 c (by rw [show r2 = c :: (d1 ++ r1) from h.symm]; rfl)
    rw [h1 c (by simp)] at h3; cases h3
  | c :: d1, c' :: d2, h1, h2, h => by
    rw [List.cons_append, List.cons_append, List.cons.injEq] at h
    obtain ⟨rfl, h⟩ := h
    obtain ⟨rfl, e⟩ := dig_split hr1 hr2 d1 d2 (fun c hc => h1 c (by simp [hc])) (fun c hc => h2 c (by simp [hc])) h
    exact ⟨rfl, e⟩
theorem text_head {s : ByteArray} (h : textE s = 0) : ∃ c r, s.data.toList = c :: r ∧ digB c = false := by
  unfold textE at h
  split at h; · cases h
  rename_i h0
  split at h; · cases h
  split at h; · cases h
  rename_i h1
  cases hs : s.data.toList with
  | nil => exact absurd (show s.data.size = 0 by rw [← Array.length_toList, hs]; rfl) h0
  | cons c r => exact ⟨c, r, rfl, by rw [hs] at h1; simpa [headDig] using h1⟩
/- Lists behind each other, with an end. -/
section
variable {g : Ty → List UInt8} {P : Ty → Prop} (hg : ∀ x y r r', P x → P y → g x ++ r = g y ++ r' → x = y ∧ r = r') (hh : ∀ x, P x → ∃ c s, g x = c :: s ∧ c ≠ 69)
include hg hh
theorem tys_inj : ∀ (l l' : List Ty) (r r' : List UInt8), (∀ x ∈ l, P x) → (∀ x ∈ l', P x) → l.flatMap g ++ 69 :: r = l'.flatMap g ++ 69 :: r' → l = l' ∧ r = r'
  | [], [], r, r', _, _, h => by simpa using h
  | [], x :: l', r, r', _, h2, h => by
    obtain ⟨c, s, e, hne⟩ := hh x (h2 x (by simp))
    rw [List.flatMap_nil, List.flatMap_cons, e] at h
    simp at h
    exact absurd h.1.symm hne
  | x :: l, [], r, r', h1, _, h => by
    obtain ⟨c, s, e, hne⟩ := hh x (h1 x (by simp))
    rw [List.flatMap_nil, List.flatMap_cons, e] at h
    simp at h
    exact absurd h.1 hne
  | x :: l, y :: l', r, r', h1, h2, h => by
    rw [List.flatMap_cons, List.flatMap_cons, List.append_assoc, List.append_assoc] at h
    obtain ⟨rfl, e⟩ := hg x y _ _ (h1 x (by simp)) (h2 y (by simp)) h
    obtain ⟨rfl, e2⟩ := tys_inj l l' r r' (fun x hx => h1 x (by simp [hx])) (fun x hx => h2 x (by simp [hx])) e
    exact ⟨rfl, e2⟩
theorem part_inj {p p' : Part} {r r' : List UInt8} (h1 : textE p.1 = 0) (h1' : textE p'.1 = 0) (h2 : ∀ x ∈ p.2, P x) (h2' : ∀ x ∈ p'.2, P x) (hr : r.head? ≠ some 73) (hr' : r'.head? ≠ some 73) (h : kyPart g p ++ r = kyPart g p' ++ r') : p = p' ∧ r = r' := by
  obtain ⟨s, l⟩ := p
  obtain ⟨s', l'⟩ := p'
  simp only [kyPart] at h1 h1' h2 h2' h
  obtain ⟨c, t, e, hc⟩ := text_head h1
  obtain ⟨c', t', e', hc'⟩ := text_head h1'
  rw [List.append_assoc, List.append_assoc, List.append_assoc, List.append_assoc] at h
  obtain ⟨hl, h⟩ := dig_split (fun x hx => by rw [e] at hx; simp at hx; rw [← hx]; exact hc) (fun x hx => by rw [e'] at hx; simp at hx; rw [← hx]; exact hc') _ _ (lenL_dig s) (lenL_dig s') h
  have hsz := lenL_inj hl
  obtain ⟨hs, hq⟩ := List.append_inj h (by rw [Array.length_toList, Array.length_toList]; exact hsz)
  have hs : s = s' := ByteArray.ext (Array.toList_inj.1 hs)
  subst hs
  by_cases hz : l.length = 0 <;> by_cases hz' : l'.length = 0
  · rw [if_pos hz, if_pos hz'] at hq
    obtain rfl := List.length_eq_zero_iff.1 hz
    obtain rfl := List.length_eq_zero_iff.1 hz'
    exact ⟨rfl, by simpa using hq⟩
  · rw [if_pos hz, if_neg hz'] at hq
    exact absurd (by rw [show r = 73 :: ((l'.flatMap g ++ [69]) ++ r') from by simpa using hq]; rfl) hr
  · rw [if_neg hz, if_pos hz'] at hq
    exact absurd (by rw [show r' = 73 :: ((l.flatMap g ++ [69]) ++ r) from by simpa using hq.symm]; rfl) hr'
  · rw [if_neg hz, if_neg hz'] at hq
    rw [List.cons_append, List.cons_append, List.cons.injEq, List.append_assoc, List.append_assoc] at hq
    obtain ⟨rfl, e2⟩ := tys_inj hg hh l l' r r' h2 h2' hq.2
    exact ⟨rfl, e2⟩
omit hg hh in
theorem parts_head (g : Ty → List UInt8) (l : List Part) (r : List UInt8) : (l.flatMap (kyPart g) ++ 69 :: r).head? ≠ some 73 := by
  cases l with
  | nil => simp
  | cons p l =>
    obtain ⟨c, t, e, hc⟩ := lenL_cons p.1
    rw [List.flatMap_cons, kyPart, e]
    simp
    rintro rfl
    exact absurd hc (by decide)
theorem parts_inj : ∀ (l l' : List Part) (r r' : List UInt8), (∀ p ∈ l, textE p.1 = 0 ∧ ∀ x ∈ p.2, P x) → (∀ p ∈ l', textE p.1 = 0 ∧ ∀ x ∈ p.2, P x) → l.flatMap (kyPart g) ++ 69 :: r = l'.flatMap (kyPart g) ++ 69 :: r' → l = l' ∧ r = r'
  | [], [], r, r', _, _, h => by simpa using h
  | [], p :: l', r, r', _, h2, h => by
    obtain ⟨c, s, e, hc⟩ := lenL_cons p.1
    rw [List.flatMap_nil, List.flatMap_cons, kyPart, e] at h
    simp at h
    rw [← h.1] at hc; exact absurd hc (by decide)
  | p :: l, [], r, r', h1, _, h => by
    obtain ⟨c, s, e, hc⟩ := lenL_cons p.1
    rw [List.flatMap_nil, List.flatMap_cons, kyPart, e] at h
    simp at h
    rw [h.1] at hc; exact absurd hc (by decide)
  | p :: l, p' :: l', r, r', h1, h2, h => by
    rw [List.flatMap_cons, List.flatMap_cons, List.append_assoc, List.append_assoc] at h
    obtain ⟨rfl, e⟩ := part_inj hg hh (h1 p (by simp)).1 (h2 p' (by simp)).1 (h1 p (by simp)).2 (h2 p' (by simp)).2 (parts_head g l r) (parts_head g l' r') h
    obtain ⟨rfl, e2⟩ := parts_inj l l' r r' (fun x hx => h1 x (by simp [hx])) (fun x hx => h2 x (by simp [hx])) e
    exact ⟨rfl, e2⟩
end
theorem ky_head {f : Nat} {t : Ty} (h : Good f t) : ∃ c s, kyT f t = c :: s ∧ c ≠ 69 := by
  cases f with
  | zero => exact h.elim
  | succ f =>
    unfold kyT
    split
    · exact ⟨_, _, rfl, by decide⟩
    · split
      · exact ⟨_, _, rfl, by decide⟩
      · split <;> exact ⟨_, _, rfl, by decide⟩
theorem one_of {l : List Ty} (h : l.length = 1) : ∃ x, l = [x] := by
  match l, h with
  | [x], _ => exact ⟨x, rfl⟩
theorem ky_inj : ∀ (f : Nat) (t t' : Ty) (r r' : List UInt8), Good f t ∧ Txt f t → Good f t' ∧ Txt f t' → kyT f t ++ r = kyT f t' ++ r' → t = t' ∧ r = r'
  | 0, _, _, _, _, h, _, _ => h.1.elim
  | f + 1, t, t', r, r', ⟨hG, hT⟩, ⟨hG', hT'⟩, h => by
    have ih := fun x y r r' (hx : Good f x ∧ Txt f x) (hy : Good f y ∧ Txt f y) => ky_inj f x y r r' hx hy
    have hh := fun x (hx : Good f x ∧ Txt f x) => ky_head hx.1
    obtain ⟨⟨k1, k2⟩, g1, g2, g3, g4, g5⟩ := hG
    obtain ⟨⟨k1', k2'⟩, g1', g2', g3', g4', g5'⟩ := hG'
    obtain ⟨t1, t2⟩ := hT
    obtain ⟨t1', t2'⟩ := hT'
    have hb : ∀ u : Ty, 1 ≤ u.kind → u.kind ≤ 4 → ∃ s, kyT (f + 1) u = (if u.kind = 1 then 78 else if u.kind = 4 then 70 else if u.kind = 2 then 82 else 76) :: s := fun u _ _ => by
      unfold kyT
      split
      · exact ⟨_, rfl⟩
      · split
        · exact ⟨_, rfl⟩
        · split <;> exact ⟨_, rfl⟩
    obtain ⟨s, es⟩ := hb t k1 k2
    obtain ⟨s', es'⟩ := hb t' k1' k2'
    have hkk : t.kind = t'.kind := by
      rw [es, es', List.cons_append, List.cons_append, List.cons.injEq] at h
      have h0 := h.1
      have c1 : t.kind = 1 ∨ t.kind = 2 ∨ t.kind = 3 ∨ t.kind = 4 := by omega
      have c2 : t'.kind = 1 ∨ t'.kind = 2 ∨ t'.kind = 3 ∨ t'.kind = 4 := by omega
      rcases c1 with e | e | e | e <;> rcases c2 with e' | e' | e' | e' <;> rw [e, e'] at h0 ⊢ <;> first | rfl | exact absurd h0 (by decide)
    clear es es' hb
    by_cases h1 : t.kind = 1
    · have h1' : t'.kind = 1 := hkk ▸ h1
      rw [kyT, kyT, if_pos h1, if_pos h1', List.cons_append, List.cons_append, List.cons.injEq, List.append_assoc, List.append_assoc] at h
      obtain ⟨e, e2⟩ := parts_inj (P := fun x => Good f x ∧ Txt f x) ih hh t.name t'.name r r' (fun p hp => ⟨(t1 p hp).1, fun x hx => ⟨(g4 p hp).2.2 x hx, (t1 p hp).2 x hx⟩⟩) (fun p hp => ⟨(t1' p hp).1, fun x hx => ⟨(g4' p hp).2.2 x hx, (t1' p hp).2 x hx⟩⟩) h.2
      exact ⟨(Ty.eq_iff _ _).2 ⟨hkk, e, by rw [(g1 h1).1, (g1' h1').1]⟩, e2⟩
    · have h1' : ¬ t'.kind = 1 := hkk ▸ h1
      have hnn : t.name = t'.name := by rw [(g2 h1).1, (g2' h1').1]
      by_cases h4 : t.kind = 4
      · have h4' : t'.kind = 4 := hkk ▸ h4
        rw [kyT, kyT, if_neg h1, if_neg h1', if_pos h4, if_pos h4', List.cons_append, List.cons_append, List.cons.injEq, List.append_assoc, List.append_assoc] at h
        obtain ⟨e, e2⟩ := tys_inj (P := fun x => Good f x ∧ Txt f x) ih hh t.of t'.of r r' (fun x hx => ⟨g5 x hx, t2 x hx⟩) (fun x hx => ⟨g5' x hx, t2' x hx⟩) h.2
        exact ⟨(Ty.eq_iff _ _).2 ⟨hkk, hnn, e⟩, e2⟩
      · have h4' : ¬ t'.kind = 4 := hkk ▸ h4
        obtain ⟨x, ex⟩ := one_of (g3 (by omega))
        obtain ⟨x', ex'⟩ := one_of (g3' (by omega))
        rw [kyT, kyT, if_neg h1, if_neg h1', if_neg h4, if_neg h4', List.cons_append, List.cons_append, List.cons.injEq, ex, ex'] at h
        obtain ⟨e, e2⟩ := ih x x' r r' ⟨g5 x (by rw [ex]; simp), t2 x (by rw [ex]; simp)⟩ ⟨g5' x' (by rw [ex']; simp), t2' x' (by rw [ex']; simp)⟩ h.2
        exact ⟨(Ty.eq_iff _ _).2 ⟨hkk, hnn, by rw [ex, ex', e]⟩, e2⟩
/- More depth turns nothing. -/
theorem good_up : ∀ {f : Nat} {t : Ty}, Good f t → Good (f + 1) t
  | 0, _, h => h.elim
  | f + 1, t, h => ⟨h.1, h.2.1, h.2.2.1, h.2.2.2.1, fun p hp => ⟨(h.2.2.2.2.1 p hp).1, (h.2.2.2.2.1 p hp).2.1, fun x hx => good_up ((h.2.2.2.2.1 p hp).2.2 x hx)⟩, fun x hx => good_up (h.2.2.2.2.2 x hx)⟩
theorem txt_up : ∀ {f : Nat} {t : Ty}, Txt f t → Txt (f + 1) t
  | 0, _, h => h.elim
  | f + 1, t, h => ⟨fun p hp => ⟨(h.1 p hp).1, fun x hx => txt_up ((h.1 p hp).2 x hx)⟩, fun x hx => txt_up (h.2 x hx)⟩
theorem flatMap_eq {α β : Type} {g g' : α → List β} {l : List α} (h : ∀ a ∈ l, g a = g' a) : l.flatMap g = l.flatMap g' := by
  rw [List.flatMap, List.flatMap, List.map_congr_left h]
theorem ky_up : ∀ {f : Nat} {t : Ty}, Good f t → kyT (f + 1) t = kyT f t
  | 0, _, h => h.elim
  | f + 1, t, h => by
    have hp : t.name.flatMap (kyPart (kyT (f + 1))) = t.name.flatMap (kyPart (kyT f)) := flatMap_eq fun p hp => by
      rw [kyPart, kyPart, flatMap_eq fun x hx => ky_up ((h.2.2.2.2.1 p hp).2.2 x hx)]
    have ho : t.of.flatMap (kyT (f + 1)) = t.of.flatMap (kyT f) := flatMap_eq fun x hx => ky_up (h.2.2.2.2.2 x hx)
    have hd : headT (kyT (f + 1)) t.of = headT (kyT f) t.of := by
      cases e : t.of with
      | nil => rfl
      | cons x l => exact ky_up (h.2.2.2.2.2 x (by rw [e]; simp))
    rw [kyT, hp, ho, hd]
    rfl
theorem up_to {Q : Nat → Prop} (hs : ∀ f, Q f → Q (f + 1)) {f k : Nat} (h : Q f) (hk : f ≤ k) : Q k := by
  induction k with
  | zero => obtain rfl : f = 0 := by omega
            exact h
  | succ k ih =>
    by_cases e : f = k + 1
    · subst e; exact h
    · exact hs k (ih (by omega))
theorem ky_12 {f : Nat} {t : Ty} (h : Good f t) (hf : f ≤ 12) : kyT 12 t = kyT f t ∧ Good 12 t :=
  up_to (Q := fun k => kyT k t = kyT f t ∧ Good k t) (fun k hk => ⟨(ky_up hk.2).trans hk.1, good_up hk.2⟩) ⟨rfl, h⟩ hf
theorem txt_12 {f : Nat} {t : Ty} (h : Txt f t) (hf : f ≤ 12) : Txt 12 t := up_to (Q := fun k => Txt k t) (fun k hk => txt_up hk) h hf
/-- A type that may be written out. -/
def Fine (t : Ty) : Prop := Good 12 t ∧ Txt 12 t
def ky (t : Ty) : List UInt8 := kyT 12 t
theorem ky_same {t t' : Ty} (h : Fine t) (h' : Fine t') (e : ky t = ky t') : t = t' :=
  (ky_inj 12 t t' [] [] h h' (by rw [List.append_nil, List.append_nil]; exact e)).1
end Go.Proofs.YtocpmbpckbjepaaDoor

/- Plain law of Mangle: what is written, and the list of the types that were written out. -/
namespace Go.Proofs.YtocpmbpckbjepaaDoor
open Go.RowKit
set_option linter.unusedVariables false
set_option linter.unusedSimpArgs false
/-- The place of a type in a list. -/
noncomputable def plc (d : List Ty) (t : Ty) : Option Nat := d.findIdx? fun x => same x t
theorem plc_some {d : List Ty} {t : Ty} {k : Nat} (h : plc d t = some k) : d[k]? = some t ∧ ∀ i, i < k → ∀ x, d[i]? = some x → same x t = false := by
  unfold plc at h
  obtain ⟨hk, h1, h2⟩ := List.findIdx?_eq_some_iff_getElem.1 h
  refine ⟨by rw [List.getElem?_eq_getElem hk, same_iff h1], fun i hi x hx => ?_⟩
  obtain ⟨hi2, rfl⟩ := List.getElem?_eq_some_iff.1 hx
  simpa using h2 i hi
theorem plc_none {d : List Ty} {t : Ty} (h : plc d t = none) : t ∉ d := fun hm => by
  unfold plc at h
  rw [List.findIdx?_eq_none_iff] at h
  have := h t hm
  rw [same_yes rfl] at this; cases this
theorem plc_of {d : List Ty} {t : Ty} {k : Nat} (hn : d.Nodup) (h : d[k]? = some t) : plc d t = some k := by
  cases hp : plc d t with
  | none => exact absurd (List.mem_of_getElem? h) (plc_none hp)
  | some j =>
    have h1 := (plc_some hp).1
    obtain ⟨hk, e⟩ := List.getElem?_eq_some_iff.1 h
    obtain ⟨hj, e'⟩ := List.getElem?_eq_some_iff.1 h1
    rw [List.nodup_iff_pairwise_ne, List.pairwise_iff_getElem] at hn
    rcases Nat.lt_trichotomy j k with hlt | rfl | hlt
    · exact absurd (e'.trans e.symm) (hn j k hj hk hlt)
    · rfl
    · exact absurd (e.trans e'.symm) (hn k j hk hj hlt)
/-- Each of a list, behind each other. -/
def mgFold {α : Type} (g : α → List Ty → List UInt8 × List Ty) : List α → List Ty → List UInt8 × List Ty
  | [], d => ([], d)
  | a :: l, d => ((g a d).1 ++ (mgFold g l (g a d).2).1, (mgFold g l (g a d).2).2)
theorem mgFold_snoc {α : Type} (g : α → List Ty → List UInt8 × List Ty) (a : α) : ∀ (l : List α) (d : List Ty), mgFold g (l ++ [a]) d = ((mgFold g l d).1 ++ (g a (mgFold g l d).2).1, (g a (mgFold g l d).2).2)
  | [], d => by simp [mgFold]
  | x :: l, d => by rw [List.cons_append, mgFold, mgFold_snoc g a l, mgFold]; simp
def mgPart (g : Ty → List Ty → List UInt8 × List Ty) (p : Part) (d : List Ty) : List UInt8 × List Ty :=
  (lenL p.1 ++ p.1.data.toList ++ (if p.2.length = 0 then [] else 73 :: ((mgFold g p.2 d).1 ++ [69])), (mgFold g p.2 d).2)
def mgName (g : Ty → List Ty → List UInt8 × List Ty) (l : List Part) (d : List Ty) : List UInt8 × List Ty :=
  (78 :: ((mgFold (mgPart g) l d).1 ++ [69]), (mgFold (mgPart g) l d).2)
/-- What a type is made of, written. -/
def mgBody (g : Ty → List Ty → List UInt8 × List Ty) (t : Ty) (d : List Ty) : List UInt8 × List Ty :=
  if t.kind = 1 then mgName g t.name d else if t.kind = 4 then (70 :: ((mgFold g t.of d).1 ++ [69]), (mgFold g t.of d).2)
  else ((if t.kind = 2 then 82 else 76) :: (mgFold g t.of d).1, (mgFold g t.of d).2)
noncomputable def mgT : Nat → Ty → List Ty → List UInt8 × List Ty
  | 0, _, d => ([], d)
  | f + 1, t, d => match plc d t with
    | some k => (83 :: (toldL (k : Int) ++ [95]), d)
    | none => ((mgBody (mgT f) t d).1, (mgBody (mgT f) t d).2 ++ [t])
noncomputable def mgSym (s : Sym) : List UInt8 :=
  81 :: ((mgName (mgT 12) s.name []).1 ++ ((mgFold (mgT 12) s.takes (mgName (mgT 12) s.name []).2).1 ++ [90]))
/-- A list of types that were written out. -/
structure DOk (d : List Ty) : Prop where
  nodup : d.Nodup
  fine : ∀ x ∈ d, Fine x
/-- What writing does to the list. -/
structure Grew (d d' : List Ty) (n : Nat) (S : Ty → Prop) : Prop where
  ok : DOk d'
  old : ∀ x ∈ d', x ∈ d ∨ S x
  pre : d <+: d'
  len : d'.length ≤ d.length + n
theorem Grew.refl {d : List Ty} (h : DOk d) (S : Ty → Prop) : Grew d d 0 S := ⟨h, fun x hx => .inl hx, List.prefix_refl d, by omega⟩
theorem Grew.trans {d d1 d2 : List Ty} {n m : Nat} {S S' Q : Ty → Prop} (h : Grew d d1 n S) (h' : Grew d1 d2 m S') (hS : ∀ x, S x → Q x) (hS' : ∀ x, S' x → Q x) : Grew d d2 (n + m) Q :=
  ⟨h'.ok, fun x hx => by
    rcases h'.old x hx with h1 | h1
    · rcases h.old x h1 with h2 | h2
      · exact .inl h2
      · exact .inr (hS x h2)
    · exact .inr (hS' x h1), h.pre.trans h'.pre, by have := h.len; have := h'.len; omega⟩
theorem Grew.more {d d' : List Ty} {n m : Nat} {S Q : Ty → Prop} (h : Grew d d' n S) (hn : n ≤ m) (hS : ∀ x, S x → Q x) : Grew d d' m Q :=
  ⟨h.ok, fun x hx => (h.old x hx).imp id (hS x), h.pre, by have := h.len; omega⟩
theorem fold_grew {α : Type} {g : α → List Ty → List UInt8 × List Ty} {c : α → Nat} {S : α → Ty → Prop} {G : α → Prop} (hg : ∀ a d, G a → DOk d → Grew d (g a d).2 (c a) (S a)) : ∀ (l : List α) (d : List Ty), (∀ a ∈ l, G a) → DOk d → Grew d (mgFold g l d).2 (sumN c l) (fun x => ∃ a ∈ l, S a x)
  | [], d, _, hd => Grew.refl hd _
  | a :: l, d, hG, hd => by
    have h1 := hg a d (hG a (by simp)) hd
    have h2 := fold_grew hg l (g a d).2 (fun b hb => hG b (by simp [hb])) h1.ok
    rw [sumN_cons]
    exact h1.trans h2 (fun x hx => ⟨a, by simp, hx⟩) (fun x ⟨b, hb, hx⟩ => ⟨b, by simp [hb], hx⟩)
theorem size_name {t : Ty} {p : Part} (hp : p ∈ t.name) {x : Ty} (hx : x ∈ p.2) : SizeOf.sizeOf x < SizeOf.sizeOf t := by
  cases t with
  | mk k n o =>
    have h1 := List.sizeOf_lt_of_mem hp
    have h2 := List.sizeOf_lt_of_mem hx
    have h3 : SizeOf.sizeOf p = 1 + SizeOf.sizeOf p.1 + SizeOf.sizeOf p.2 := by cases p; rfl
    have h4 : SizeOf.sizeOf (Ty.mk k n o) = 1 + SizeOf.sizeOf k + SizeOf.sizeOf n + SizeOf.sizeOf o := Ty.mk.sizeOf_spec k n o
    show SizeOf.sizeOf x < SizeOf.sizeOf (Ty.mk k n o)
    have h5 : SizeOf.sizeOf p < SizeOf.sizeOf n := h1
    omega
theorem size_of {t : Ty} {x : Ty} (hx : x ∈ t.of) : SizeOf.sizeOf x < SizeOf.sizeOf t := by
  cases t with
  | mk k n o =>
    have h2 : SizeOf.sizeOf x < SizeOf.sizeOf o := List.sizeOf_lt_of_mem hx
    have h4 : SizeOf.sizeOf (Ty.mk k n o) = 1 + SizeOf.sizeOf k + SizeOf.sizeOf n + SizeOf.sizeOf o := Ty.mk.sizeOf_spec k n o
    show SizeOf.sizeOf x < SizeOf.sizeOf (Ty.mk k n o)
    omega
theorem cnt_eq (f : Nat) (t : Ty) : cnt (f + 1) t = 1 + cntParts f t.name + cntTys f t.of := rfl
def Sub (t x : Ty) : Prop := SizeOf.sizeOf x ≤ SizeOf.sizeOf t
theorem mgT_grew : ∀ (f : Nat) (t : Ty) (d : List Ty), f ≤ 12 → Good f t ∧ Txt f t → DOk d → Grew d (mgT f t d).2 (cnt f t) (Sub t)
  | 0, _, _, _, h, _ => h.1.elim
  | f + 1, t, d, hf, ⟨hG, hT⟩, hd => by
    have ih := fun x d (hx : Good f x ∧ Txt f x) hd => mgT_grew f x d (by omega) hx hd
    unfold mgT
    cases hp : plc d t with
    | some k => exact (Grew.refl hd _).more (by omega) (fun _ h => h)
    | none =>
      have hb : Grew d (mgBody (mgT f) t d).2 (cntParts f t.name + cntTys f t.of) (fun x => SizeOf.sizeOf x < SizeOf.sizeOf t) := by
        unfold mgBody
        split
        · have h1 := fold_grew (g := mgPart (mgT f)) (c := fun p => cntTys f p.2) (S := fun p x => ∃ y ∈ p.2, Sub y x) (G := fun p => ∀ x ∈ p.2, Good f x ∧ Txt f x) (fun p d hp hd => fold_grew (c := cnt f) (S := fun y x => Sub y x) ih p.2 d hp hd) t.name d (fun p hp x hx => ⟨(hG.2.2.2.2.1 p hp).2.2 x hx, (hT.1 p hp).2 x hx⟩) hd
          refine h1.more (by unfold cntParts; omega) ?_
          rintro x ⟨p, hp, y, hy, hs⟩
          exact Nat.lt_of_le_of_lt hs (size_name hp hy)
        · have h1 := fold_grew (c := cnt f) (S := fun y x => Sub y x) ih t.of d (fun x hx => ⟨hG.2.2.2.2.2 x hx, hT.2 x hx⟩) hd
          have h2 : Grew d (mgFold (mgT f) t.of d).2 (cntParts f t.name + cntTys f t.of) (fun x => SizeOf.sizeOf x < SizeOf.sizeOf t) := by
            refine h1.more (by unfold cntTys; omega) ?_
            rintro x ⟨y, hy, hs⟩
            exact Nat.lt_of_le_of_lt hs (size_of hy)
          split
          · exact h2
          · exact h2
      have hnt : t ∉ (mgBody (mgT f) t d).2 := fun hm => by
        rcases hb.old t hm with h1 | h1
        · exact plc_none hp h1
        · exact absurd h1 (Nat.lt_irrefl _)
      refine ⟨⟨?_, fun x hx => ?_⟩, fun x hx => ?_, hb.pre.trans (List.prefix_append _ _), ?_⟩
      · rw [List.nodup_append]
        refine ⟨hb.ok.nodup, by simp, fun a ha b hb' => ?_⟩
        obtain rfl := List.mem_singleton.1 hb'
        exact fun e => hnt (e ▸ ha)
      · rcases List.mem_append.1 hx with hx | hx
        · exact hb.ok.fine x hx
        · obtain rfl := List.mem_singleton.1 hx
          exact ⟨(ky_12 hG hf).2, txt_12 hT hf⟩
      · rcases List.mem_append.1 hx with hx | hx
        · exact (hb.old x hx).imp id (fun h => Nat.le_of_lt h)
        · obtain rfl := List.mem_singleton.1 hx
          exact .inr (Nat.le_refl _)
      · rw [List.length_append, List.length_singleton, cnt_eq]
        have := hb.len
        omega
/-- A type that is not in the list is not in it when what it is made of is written. -/
theorem body_new {f : Nat} {t : Ty} {d : List Ty} (hf : f + 1 ≤ 12) (hG : Good (f + 1) t ∧ Txt (f + 1) t) (hd : DOk d) (hp : plc d t = none) : t ∉ (mgBody (mgT f) t d).2 ∧ DOk (mgBody (mgT f) t d).2 ∧ (mgBody (mgT f) t d).2.length + 1 ≤ d.length + cnt (f + 1) t := by
  have h := mgT_grew (f + 1) t d hf hG hd
  have e : (mgT (f + 1) t d).2 = (mgBody (mgT f) t d).2 ++ [t] := by rw [mgT, hp]
  rw [e] at h
  have h1 := h.ok.nodup
  rw [List.nodup_append] at h1
  have h2 := h.len
  rw [List.length_append, List.length_singleton] at h2
  exact ⟨fun hm => h1.2.2 t hm t (by simp) rfl, ⟨h1.1, fun x hx => h.ok.fine x (List.mem_append_left _ hx)⟩, h2⟩
/-- The keys of what was written out. -/
noncomputable def kys (d : List Ty) : List (List UInt8) := d.map ky
theorem kys_nodup {d : List Ty} (h : DOk d) : (kys d).Nodup := by
  unfold kys
  rw [List.nodup_iff_pairwise_ne, List.pairwise_map]
  have hn := h.nodup
  rw [List.nodup_iff_pairwise_ne] at hn
  exact List.Pairwise.imp_of_mem (fun {a b} ha hb hne e => hne (ky_same (h.fine a ha) (h.fine b hb) e)) hn
theorem kys_mem {d : List Ty} (h : DOk d) {t : Ty} (ht : Fine t) : ky t ∈ kys d ↔ t ∈ d := by
  unfold kys
  rw [List.mem_map]
  constructor
  · rintro ⟨x, hx, e⟩
    exact ky_same (h.fine x hx) ht e ▸ hx
  · exact fun hx => ⟨t, hx, rfl⟩
theorem kys_at {d : List Ty} {t : Ty} {k : Nat} (hk : d[k]? = some t) : (kys d)[k]? = some (ky t) := by
  unfold kys; rw [List.getElem?_map, hk]; rfl
end Go.Proofs.YtocpmbpckbjepaaDoor

/- The parser of printed symbols in plain Lean, and trees that lie in a set of blocks. No program. -/
namespace Go.Proofs.YtocpmbpckbjepaaDoor
open Go.RowKit
set_option linter.unusedVariables false
inductive Res (α : Type) where
  | bad (e : Nat)
  | ok (i : Nat) (a : α)
def Res.bind {α β : Type} (r : Res α) (k : Nat → α → Res β) : Res β := match r with
  | .bad e => .bad e
  | .ok i a => k i a
/-- A byte of an identifier at place j of it. -/
def okId (j : Nat) (c : UInt8) : Bool := lettB c || (decide (0 < j) && digB c)
def idK : Nat → List UInt8 → Nat
  | _, [] => 0
  | j, c :: r => if okId j c then idK (j + 1) r + 1 else 0
theorem idK_is : ∀ (l : List UInt8) (j k : Nat), k ≤ l.length → (∀ i c, i < k → l[i]? = some c → okId (j + i) c = true) → (∀ c, l[k]? = some c → okId (j + k) c = false) → idK j l = k
  | [], j, k, hk, _, _ => by simp at hk; subst hk; rfl
  | c :: r, j, 0, _, _, h => by
    have := h c rfl
    rw [idK, if_neg]
    simpa using this
  | c :: r, j, k + 1, hk, h1, h2 => by
    have h0 := h1 0 c (by omega) rfl
    rw [idK, if_pos (by simpa using h0), idK_is r (j + 1) k (by simpa using hk) (fun i d hi hd => by have := h1 (i + 1) d (by omega) (by simpa using hd); rwa [show j + 1 + i = j + (i + 1) by omega])
      (fun d hd => by have := h2 d (by simpa using hd); rwa [show j + 1 + k = j + (k + 1) by omega])]
theorem idK_le : ∀ (l : List UInt8) (j : Nat), idK j l ≤ l.length
  | [], _ => Nat.le_refl _
  | c :: r, j => by
    have := idK_le r (j + 1)
    unfold idK
    split
    · simp; omega
    · omega
/-- The length of the identifier at i. -/
def idL (s : ByteArray) (i : Nat) : Nat := idK 0 (s.data.toList.drop i)
theorem idL_le (s : ByteArray) (i : Nat) (h : i ≤ s.size) : i + idL s i ≤ s.size := by
  have := idK_le (s.data.toList.drop i) 0
  unfold idL
  rw [List.length_drop, str_len] at this
  omega
theorem idL_is (s : ByteArray) (i k : Nat) (hk : i + k ≤ s.size) (h1 : ∀ j, j < k → ∀ c, s.data.toList[i + j]? = some c → okId j c = true) (h2 : ∀ c, s.data.toList[i + k]? = some c → okId k c = false) : idL s i = k := by
  unfold idL
  refine idK_is _ 0 k (by rw [List.length_drop, str_len]; omega) (fun j c hj hc => ?_) (fun c hc => ?_)
  · rw [Nat.zero_add]; exact h1 j hj c (by rwa [List.getElem?_drop] at hc)
  · rw [Nat.zero_add]; exact h2 c (by rwa [List.getElem?_drop] at hc)
/-- The bytes that have to be there. -/
def needB (s : ByteArray) : List UInt8 → Nat → Res Unit
  | [], i => .ok i ()
  | b :: t, i => if s.data.toList[i]? = some b then needB s t (i + 1) else .bad i
theorem needB_ok (s : ByteArray) : ∀ (t : List UInt8) (i j : Nat) (u : Unit), i ≤ s.size → needB s t i = .ok j u → j = i + t.length ∧ j ≤ s.size
  | [], i, j, u, hi, h => by cases h; exact ⟨rfl, hi⟩
  | b :: t, i, j, u, hi, h => by
    unfold needB at h
    split at h
    · rename_i hb
      have hlt : i < s.size := by have := (List.getElem?_eq_some_iff.1 hb).1; rwa [str_len] at this
      have := needB_ok s t (i + 1) j u (by omega) h
      rw [List.length_cons]; omega
    · cases h
def pTys (s : ByteArray) (one : Nat → Res Ty) : Nat → List Ty → Nat → Res (List Ty)
  | 0, _, i => .bad i
  | g + 1, acc, i => (one i).bind fun j t => if s.data.toList[j]? = some 44 then (needB s [32] (j + 1)).bind fun k _ => pTys s one g (acc ++ [t]) k else .ok j (acc ++ [t])
def pArgs (s : ByteArray) (one : Nat → Res Ty) (i : Nat) : Res (List Ty) :=
  if s.data.toList[i]? = some 60 then (pTys s one (s.size + 1) [] (i + 1)).bind fun j l => (needB s [62] j).bind fun k _ => .ok k l else .ok i []
def pParts (s : ByteArray) (one : Nat → Res Ty) : Nat → List Part → ByteArray → Nat → Res (List Part)
  | 0, _, _, i => .bad i
  | g + 1, acc, x, i => (pArgs s one i).bind fun j l => if s.data.toList[j]? = some 46 then
      (if idL s (j + 1) = 0 then .bad (j + 1) else pParts s one g (acc ++ [(x, l)]) (s.extract (j + 1) (j + 1 + idL s (j + 1))) (j + 1 + idL s (j + 1))) else .ok j (acc ++ [(x, l)])
def refS : ByteArray := ⟨#[114, 101, 102]⟩
def listS : ByteArray := ⟨#[108, 105, 115, 116]⟩
def funcS : ByteArray := ⟨#[102, 117, 110, 99]⟩
def pRef (s : ByteArray) (one : Nat → Res Ty) (k : Int) (i : Nat) : Res Ty := (needB s [32] i).bind fun j _ => (one j).bind fun m t => .ok m (Ty.mk k [] [t])
def pTakes (s : ByteArray) (one : Nat → Res Ty) (i : Nat) : Res (List Ty) := if s.data.toList[i]? = some 41 then .ok i [] else pTys s one (s.size + 1) [] i
def pFunc (s : ByteArray) (one : Nat → Res Ty) (i : Nat) : Res Ty :=
  (needB s [40] i).bind fun j _ => (pTakes s one j).bind fun k l => (needB s [41, 32] k).bind fun m _ => (one m).bind fun q t => .ok q (Ty.mk 4 [] (l ++ [t]))
def pOne (s : ByteArray) : Nat → Nat → Res Ty
  | 0, i => .bad i
  | f + 1, i => if idL s i = 0 then .bad i
    else if s.extract i (i + idL s i) = refS then pRef s (pOne s f) 2 (i + idL s i)
    else if s.extract i (i + idL s i) = listS then pRef s (pOne s f) 3 (i + idL s i)
    else if s.extract i (i + idL s i) = funcS then pFunc s (pOne s f) (i + idL s i)
    else (pParts s (pOne s f) (s.size + 1) [] (s.extract i (i + idL s i)) (i + idL s i)).bind fun j l => .ok j (Ty.mk 1 l [])
def pName (s : ByteArray) : Res (List Part) := if idL s 0 = 0 then .bad 0 else pParts s (pOne s 12) (s.size + 1) [] (s.extract 0 (0 + idL s 0)) (0 + idL s 0)
def pSym (s : ByteArray) : Res Sym :=
  (pName s).bind fun i a => (needB s [40] i).bind fun j _ => (pTakes s (pOne s 12) j).bind fun k l => (needB s [41] k).bind fun m _ => if m < s.size then .bad m else .ok m ⟨a, l⟩
/-- Where a result goes on, it goes on within the string, and not before. -/
def Within {α : Type} (r : Res α) (i n : Nat) : Prop := match r with
  | .bad e => e ≤ n
  | .ok j _ => i ≤ j ∧ j ≤ n
theorem Within.bind {α β : Type} {r : Res α} {k : Nat → α → Res β} {i n : Nat} (h : Within r i n) (hk : ∀ j a, i ≤ j → j ≤ n → Within (k j a) i n) : Within (r.bind k) i n := by
  cases r with
  | bad e => exact h
  | ok j a => exact hk j a h.1 h.2
theorem Within.mono {α : Type} {r : Res α} {i i' n : Nat} (h : Within r i' n) (hi : i ≤ i') : Within r i n := by
  cases r with
  | bad e => exact h
  | ok j a => exact ⟨Nat.le_trans hi h.1, h.2⟩
theorem Within.ok {α : Type} {i j n : Nat} {a : α} (h1 : i ≤ j) (h2 : j ≤ n) : Within (.ok j a) i n := ⟨h1, h2⟩
theorem needB_from (s : ByteArray) : ∀ (t : List UInt8) (i : Nat), i ≤ s.size → Within (needB s t i) i s.size
  | [], i, hi => ⟨Nat.le_refl _, hi⟩
  | b :: t, i, hi => by
    unfold needB
    split
    · rename_i hb
      have hlt : i < s.size := by have := (List.getElem?_eq_some_iff.1 hb).1; rwa [str_len] at this
      exact (needB_from s t (i + 1) (by omega)).mono (by omega)
    · exact hi
def OneFrom (s : ByteArray) (one : Nat → Res Ty) : Prop := ∀ i, i ≤ s.size → Within (one i) i s.size
theorem get_lt {s : ByteArray} {i : Nat} {b : UInt8} (h : s.data.toList[i]? = some b) : i < s.size := by have := (List.getElem?_eq_some_iff.1 h).1; rwa [str_len] at this
theorem pTys_from {s : ByteArray} {one : Nat → Res Ty} (h : OneFrom s one) : ∀ (g : Nat) (acc : List Ty) (i : Nat), i ≤ s.size → Within (pTys s one g acc i) i s.size
  | 0, _, i, hi => hi
  | g + 1, acc, i, hi => by
    unfold pTys
    refine (h i hi).bind fun j t h1 h2 => ?_
    split
    · rename_i hb
      have := get_lt hb
      exact ((needB_from s [32] (j + 1) (by omega)).bind fun k _ h3 h4 => (pTys_from h g _ k h4).mono h3).mono (by omega)
    · exact ⟨h1, h2⟩
theorem pArgs_from {s : ByteArray} {one : Nat → Res Ty} (h : OneFrom s one) (i : Nat) (hi : i ≤ s.size) : Within (pArgs s one i) i s.size := by
  unfold pArgs
  split
  · rename_i hb
    have := get_lt hb
    exact ((pTys_from h _ _ (i + 1) (by omega)).bind fun j l h1 h2 => ((needB_from s [62] j h2).bind fun k _ h3 h4 => Within.ok h3 h4).mono h1).mono (by omega)
  · exact ⟨Nat.le_refl _, hi⟩
theorem pParts_from {s : ByteArray} {one : Nat → Res Ty} (h : OneFrom s one) : ∀ (g : Nat) (acc : List Part) (x : ByteArray) (i : Nat), i ≤ s.size → Within (pParts s one g acc x i) i s.size
  | 0, _, _, i, hi => hi
  | g + 1, acc, x, i, hi => by
    unfold pParts
    refine (pArgs_from h i hi).bind fun j l h1 h2 => ?_
    split
    · rename_i hb
      have hj := get_lt hb
      split
      · exact hj
      · exact (pParts_from h g _ _ _ (idL_le s (j + 1) (by omega))).mono (by omega)
    · exact ⟨h1, h2⟩
theorem pTakes_from {s : ByteArray} {one : Nat → Res Ty} (h : OneFrom s one) (i : Nat) (hi : i ≤ s.size) : Within (pTakes s one i) i s.size := by
  unfold pTakes
  split
  · exact ⟨Nat.le_refl _, hi⟩
  · exact pTys_from h _ _ i hi
theorem pOne_from (s : ByteArray) : ∀ (f : Nat), OneFrom s (pOne s f)
  | 0, i, hi => hi
  | f + 1, i, hi => by
    have IH := pOne_from s f
    have hle := idL_le s i hi
    unfold pOne
    split
    · exact hi
    · refine Within.mono (i' := i + idL s i) ?_ (by omega)
      have hr : ∀ k, Within (pRef s (pOne s f) k (i + idL s i)) (i + idL s i) s.size := fun k => (needB_from s [32] _ hle).bind fun j _ h1 h2 => ((IH j h2).bind fun m t h3 h4 => Within.ok h3 h4).mono h1
      split
      · exact hr 2
      split
      · exact hr 3
      split
      · exact (needB_from s [40] _ hle).bind fun j _ h1 h2 => ((pTakes_from IH j h2).bind fun k l h3 h4 => ((needB_from s [41, 32] k h4).bind fun m _ h5 h6 => ((IH m h6).bind fun q t h7 h8 => Within.ok h7 h8).mono h5).mono h3).mono h1
      · exact (pParts_from IH _ _ _ _ hle).bind fun j l h1 h2 => Within.ok h1 h2
/- Trees in a set of blocks. -/
structure SlS {α : Type} (w : World) (S : Nat → Prop) (sz : Nat) (R : α → List Value → Prop) (A : Option Addr) (n : Nat) (l : List α) : Prop where
  len : l.length = n
  cells : 0 < n → ∃ b o, A = some ⟨b, o, none⟩ ∧ S b ∧ b < w.heap.size ∧ ∀ i a, l[i]? = some a → ∃ cs : List Value, R a cs ∧ ∀ j v, cs[j]? = some v → w.cell? ⟨b, o + i * sz + j, none⟩ = some v
def PartS (w : World) (S : Nat → Prop) (R : Ty → List Value → Prop) (p : Part) (cs : List Value) : Prop :=
  ∃ A n cap, cs = [.string p.1, .slice A n cap] ∧ p.1.size ≤ maxLen ∧ n ≤ cap ∧ cap ≤ maxLen ∧ SlS w S 3 R A n p.2
def TyS (w : World) (S : Nat → Prop) : Nat → Ty → List Value → Prop
  | 0, _, _ => False
  | k + 1, t, cs => ∃ A n cap A' n' cap', cs = [.int .i64 t.kind, .slice A n cap, .slice A' n' cap'] ∧ n ≤ cap ∧ cap ≤ maxLen ∧ n' ≤ cap' ∧ cap' ≤ maxLen ∧
      SlS w S 2 (PartS w S (TyS w S k)) A n t.name ∧ SlS w S 3 (TyS w S k) A' n' t.of
/-- The blocks in S stay. -/
def StayS (S : Nat → Prop) (w w' : World) : Prop := w.heap.size ≤ w'.heap.size ∧ ∀ b o, S b → w.heap[b]? = some o → w'.heap[b]? = some o
section
variable {α : Type} {w w' : World} {S S' : Nat → Prop} {sz n : Nat} {R R' : α → List Value → Prop} {A : Option Addr} {l : List α}
theorem SlS.nil (w : World) (S : Nat → Prop) (sz : Nat) (R : α → List Value → Prop) (A : Option Addr) : SlS w S sz R A 0 [] := ⟨rfl, fun h => absurd h (by omega)⟩
theorem cell_stay {b i : Nat} (h : StayS S w w') (hb : S b) (hlt : b < w.heap.size) : w'.cell? ⟨b, i, none⟩ = w.cell? ⟨b, i, none⟩ := by
  have h1 := h.2 b _ hb (Array.getElem?_eq_getElem hlt)
  simp only [World.cell?, h1, Array.getElem?_eq_getElem hlt]
theorem SlS.stay (h : SlS w S sz R A n l) (hb : StayS S w w') (hS : ∀ b, S b → b < w.heap.size → S' b) (hR : ∀ a, a ∈ l → ∀ cs, R a cs → R' a cs) : SlS w' S' sz R' A n l := by
  refine ⟨h.len, fun hn => ?_⟩
  obtain ⟨b, o, e, hs, hlt, hc⟩ := h.cells hn
  refine ⟨b, o, e, hS b hs hlt, by have := hb.1; omega, fun i a ha => ?_⟩
  obtain ⟨cs, h1, h2⟩ := hc i a ha
  exact ⟨cs, hR a (List.mem_of_getElem? ha) cs h1, fun j v hv => (cell_stay hb hs hlt).trans (h2 j v hv)⟩
theorem SlS.toP {B : Nat} {R' : α → List Value → Prop} (h : SlS w S sz R A n l) (hS : ∀ b, S b → b < w.heap.size → b < B) (hR : ∀ a, a ∈ l → ∀ cs, R a cs → R' a cs) : SlP w B sz R' A n l := by
  refine ⟨h.len, fun hn => ?_⟩
  obtain ⟨b, o, e, hs, hlt, hc⟩ := h.cells hn
  refine ⟨b, o, e, hS b hs hlt, fun i a ha => ?_⟩
  obtain ⟨cs, h1, h2⟩ := hc i a ha
  exact ⟨cs, hR a (List.mem_of_getElem? ha) cs h1, h2⟩
end
theorem PartS.stay {w w' : World} {S S' : Nat → Prop} {R R' : Ty → List Value → Prop} {p : Part} {cs : List Value} (h : PartS w S R p cs) (hb : StayS S w w') (hS : ∀ b, S b → b < w.heap.size → S' b) (hR : ∀ a cs, R a cs → R' a cs) : PartS w' S' R' p cs := by
  obtain ⟨A, n, cap, e, h1, h2, h3, h4⟩ := h
  exact ⟨A, n, cap, e, h1, h2, h3, h4.stay hb hS (fun a _ => hR a)⟩
theorem TyS.stay {w w' : World} {S S' : Nat → Prop} (hb : StayS S w w') (hS : ∀ b, S b → b < w.heap.size → S' b) : ∀ {k : Nat} {t : Ty} {cs : List Value}, TyS w S k t cs → TyS w' S' k t cs
  | 0, _, _, h => h
  | k + 1, t, cs, h => by
    obtain ⟨A, n, cap, A', n', cap', e, h1, h2, h3, h4, h5, h6⟩ := h
    exact ⟨A, n, cap, A', n', cap', e, h1, h2, h3, h4, h5.stay hb hS (fun a _ cs h => h.stay hb hS (fun a cs h => TyS.stay hb hS h)), h6.stay hb hS (fun a _ cs h => TyS.stay hb hS h)⟩
theorem TyS.toP {w : World} {S : Nat → Prop} {B : Nat} (hS : ∀ b, S b → b < w.heap.size → b < B) : ∀ {k : Nat} {t : Ty} {cs : List Value}, TyS w S k t cs → TyIn w B k t cs
  | 0, _, _, h => h
  | k + 1, t, cs, h => by
    obtain ⟨A, n, cap, A', n', cap', e, h1, h2, h3, h4, h5, h6⟩ := h
    refine ⟨A, n, cap, A', n', cap', e, h1, h2, h3, h4, h5.toP hS (fun a _ cs h => ?_), h6.toP hS (fun a _ cs h => TyS.toP hS h)⟩
    obtain ⟨A, n, cap, e, h1, h2, h3, h4⟩ := h
    exact ⟨A, n, cap, e, h1, h2, h3, h4.toP hS (fun a _ cs h => TyS.toP hS h)⟩
theorem StayS.refl (S : Nat → Prop) (w : World) : StayS S w w := ⟨Nat.le_refl _, fun _ _ _ h => h⟩
theorem StayS.trans {S : Nat → Prop} {w w1 w2 : World} (h : StayS S w w1) (h' : StayS S w1 w2) : StayS S w w2 := ⟨Nat.le_trans h.1 h'.1, fun b o hs hb => h'.2 b o hs (h.2 b o hs hb)⟩
theorem TyS.deeper {w : World} {S : Nat → Prop} : ∀ {k : Nat} {t : Ty} {cs : List Value}, TyS w S k t cs → TyS w S (k + 1) t cs
  | 0, _, _, h => h.elim
  | k + 1, t, cs, h => by
    obtain ⟨A, n, cap, A', n', cap', e, h1, h2, h3, h4, h5, h6⟩ := h
    exact ⟨A, n, cap, A', n', cap', e, h1, h2, h3, h4, h5.stay (StayS.refl _ _) (fun _ h _ => h) (fun a _ cs h => h.stay (StayS.refl _ _) (fun _ h _ => h) (fun a cs h => TyS.deeper h)), h6.stay (StayS.refl _ _) (fun _ h _ => h) (fun a _ cs h => TyS.deeper h)⟩
/-- A row of one's own that is being filled: its elements are trees in the blocks from base on, other than the row's. -/
def OwnT {α : Type} (w : World) (base : Nat) (e : TypeId) (sz : Nat) (R : World → (Nat → Prop) → α → List Value → Prop) (v : Value) (n : Nat) (l : List α) : Prop :=
  ∃ css : List (List Value), w.ownsRow base e sz v n css.flatten ∧ css.length = n ∧ l.length = n ∧ ∀ (i : Nat) (a : α) (c : List Value), l[i]? = some a → css[i]? = some c → c.length = sz ∧ R w (fun b => base ≤ b ∧ v.ownBlock ≠ some b) a c
end Go.Proofs.YtocpmbpckbjepaaDoor

/- The reader of mangled symbols in plain Lean. No program. -/
namespace Go.Proofs.YtocpmbpckbjepaaDoor
open Go.RowKit
set_option linter.unusedVariables false
/-- What a type is made of, by the numbers of others. -/
structure Shp where
  kind : Nat
  name : List (ByteArray × List Nat)
  of : List Nat
deriving DecidableEq
abbrev Nd := Shp × Ty
def dgs (s : ByteArray) (i : Nat) : List UInt8 := (s.data.toList.drop i).takeWhile digB
def dgV (l : List UInt8) : Nat := l.foldl (fun n b => n * 10 + (b.toNat - 48)) 0
/-- A number, as it stands in mangled names. -/
def dNum (s : ByteArray) (i : Nat) : Res Nat :=
  if (dgs s i).length = 0 ∨ 4 < (dgs s i).length ∨ (1 < (dgs s i).length ∧ s.data.toList[i]? = some 48) then .bad i else .ok (i + (dgs s i).length) (dgV (dgs s i))
/-- How many bytes from i on, at most n, are an identifier's. -/
def idN (s : ByteArray) (i n : Nat) : Nat := idK 0 ((s.data.toList.drop i).take n)
def dId (s : ByteArray) (i : Nat) : Res ByteArray := (dNum s i).bind fun j n =>
  if n = 0 ∨ 60 < n ∨ s.size < j + n then .bad i else if idN s j n = n then .ok (j + n) (s.extract j (j + n)) else .bad (j + idN s j n)
def dTys (s : ByteArray) (one : List Nd → Nat → Res (Nat × Ty × List Nd)) : Nat → List Ty → List Nat → List Nd → Nat → Res (List Ty × List Nat × List Nd)
  | 0, _, _, _, i => .bad i
  | g + 1, acc, ids, D, i => if acc.length ≠ 0 ∧ s.data.toList[i]? = some 69 then .ok (i + 1) (acc, ids, D) else (one D i).bind fun j x => dTys s one g (acc ++ [x.2.1]) (ids ++ [x.1]) x.2.2 j
def dArgs (s : ByteArray) (one : List Nd → Nat → Res (Nat × Ty × List Nd)) (D : List Nd) (j : Nat) : Res (List Ty × List Nat × List Nd) :=
  if s.data.toList[j]? = some 73 then dTys s one (s.size + 1) [] [] D (j + 1) else .ok j ([], [], D)
def dParts (s : ByteArray) (one : List Nd → Nat → Res (Nat × Ty × List Nd)) : Nat → List Part → List (ByteArray × List Nat) → List Nd → Nat → Res (List Part × List (ByteArray × List Nat) × List Nd)
  | 0, _, _, _, i => .bad i
  | g + 1, acc, sh, D, i => if acc.length ≠ 0 ∧ s.data.toList[i]? = some 69 then .ok (i + 1) (acc, sh, D) else
      (dId s i).bind fun j x => (dArgs s one D j).bind fun k y => dParts s one g (acc ++ [(x, y.1)]) (sh ++ [(x, y.2.1)]) y.2.2 k
def dName (s : ByteArray) (one : List Nd → Nat → Res (Nat × Ty × List Nd)) (D : List Nd) (i : Nat) : Res (List Part × List (ByteArray × List Nat) × List Nd) :=
  if s.data.toList[i]? = some 78 then dParts s one (s.size + 1) [] [] D (i + 1) else .bad i
def dNew (D : List Nd) (i : Nat) (sh : Shp) (t : Ty) (j : Nat) : Res (Nat × Ty × List Nd) := if sh ∈ D.map (·.1) then .bad i else .ok j (D.length, t, D ++ [(sh, t)])
def dPick (D : List Nd) (i j n : Nat) : Res (Nat × Ty × List Nd) := match D[n]? with
  | some x => .ok j (n, x.2, D)
  | none => .bad i
def dAgain (s : ByteArray) (D : List Nd) (i : Nat) : Res (Nat × Ty × List Nd) := (dNum s (i + 1)).bind fun j n => if s.data.toList[j]? = some 95 then dPick D i (j + 1) n else .bad j
def dOne (s : ByteArray) : Nat → List Nd → Nat → Res (Nat × Ty × List Nd)
  | 0, _, i => .bad i
  | f + 1, D, i =>
    if s.data.toList[i]? = some 83 then dAgain s D i
    else if s.data.toList[i]? = some 78 then (dName s (dOne s f) D i).bind fun j x => dNew x.2.2 i ⟨1, x.2.1, []⟩ (Ty.mk 1 x.1 []) j
    else if s.data.toList[i]? = some 82 then (dOne s f D (i + 1)).bind fun j x => dNew x.2.2 i ⟨2, [], [x.1]⟩ (Ty.mk 2 [] [x.2.1]) j
    else if s.data.toList[i]? = some 76 then (dOne s f D (i + 1)).bind fun j x => dNew x.2.2 i ⟨3, [], [x.1]⟩ (Ty.mk 3 [] [x.2.1]) j
    else if s.data.toList[i]? = some 70 then (dTys s (dOne s f) (s.size + 1) [] [] D (i + 1)).bind fun j x => dNew x.2.2 i ⟨4, [], x.2.1⟩ (Ty.mk 4 [] x.1) j
    else .bad i
def dTk (s : ByteArray) : Nat → List Ty → List Nd → Nat → Res (List Ty)
  | 0, _, _, i => .bad i
  | g + 1, acc, D, i => if s.data.toList[i]? = some 90 then (if i + 1 < s.size then .bad (i + 1) else .ok (i + 1) acc) else (dOne s 12 D i).bind fun j x => dTk s g (acc ++ [x.2.1]) x.2.2 j
def dSym (s : ByteArray) : Res Sym :=
  if s.data.toList[0]? = some 81 then (dName s (dOne s 12) [] 1).bind fun i x => (dTk s (s.size + 1) [] x.2.2 i).bind fun j l => .ok j ⟨x.1, l⟩ else .bad 0
/-- A shape that can be read. -/
def ShOk (sh : Shp) : Prop :=
  (sh.kind = 1 ∧ sh.of = [] ∧ ∀ p ∈ sh.name, ∀ b ∈ p.1.data.toList, (lettB b || digB b) = true) ∨ ((sh.kind = 2 ∨ sh.kind = 3) ∧ sh.name = [] ∧ sh.of.length = 1) ∨ (sh.kind = 4 ∧ sh.name = [])
structure NOk (D : List Nd) : Prop where
  nodup : (D.map (·.1)).Nodup
  ok : ∀ x ∈ D, ShOk x.1
/-- The list of types grows, no faster than one goes on. -/
structure Ext (D D' : List Nd) (i j : Nat) : Prop where
  pre : D <+: D'
  ok : NOk D'
  len : D'.length + i ≤ D.length + j
theorem Ext.refl {D : List Nd} (h : NOk D) {i j : Nat} (hij : i ≤ j) : Ext D D i j := ⟨List.prefix_refl D, h, by omega⟩
theorem Ext.trans {D D1 D2 : List Nd} {i j k m : Nat} (h : Ext D D1 i j) (h' : Ext D1 D2 (j + m) k) : Ext D D2 (i + m) k := ⟨h.pre.trans h'.pre, h'.ok, by have := h.len; have := h'.len; omega⟩
theorem Ext.less {D D' : List Nd} {i i' j : Nat} (h : Ext D D' i j) (hi : i' ≤ i) : Ext D D' i' j := ⟨h.pre, h.ok, by have := h.len; omega⟩
theorem Ext.le {D D' : List Nd} {i j : Nat} (h : Ext D D' i j) : D.length ≤ D'.length := h.pre.length_le
/-- What a reader answers: where it goes on, it goes on within the string, behind i by n at least. -/
def Out {α β : Type} (s : ByteArray) (i n : Nat) (D : List Nd) (r : Res (α × β × List Nd)) (P : α → β → List Nd → Prop) : Prop := match r with
  | .bad e => e ≤ s.size
  | .ok j x => i + n ≤ j ∧ j ≤ s.size ∧ Ext D x.2.2 (i + n) j ∧ P x.1 x.2.1 x.2.2
theorem Out.bind {α β γ δ : Type} {s : ByteArray} {i n : Nat} {D : List Nd} {r : Res (α × β × List Nd)} {k : Nat → α × β × List Nd → Res (γ × δ × List Nd)} {P : α → β → List Nd → Prop} {Q : γ → δ → List Nd → Prop} {m : Nat}
    (h : Out s i n D r P) (hk : ∀ j a b D', r = .ok j (a, b, D') → i + n ≤ j → j ≤ s.size → Ext D D' (i + n) j → P a b D' → Out s j m D' (k j (a, b, D')) Q) : Out s i (n + m) D (r.bind k) Q := by
  cases r with
  | bad e => exact h
  | ok j x =>
    obtain ⟨h1, h2, h3, h4⟩ := h
    have := hk j x.1 x.2.1 x.2.2 rfl h1 h2 h3 h4
    show Out s i (n + m) D (k j x) Q
    cases hr : k j x with
    | bad e => rw [show k j (x.1, x.2.1, x.2.2) = k j x from rfl, hr] at this; exact this
    | ok q y =>
      rw [show k j (x.1, x.2.1, x.2.2) = k j x from rfl, hr] at this
      obtain ⟨g1, g2, g3, g4⟩ := this
      exact ⟨by omega, g2, by rw [← Nat.add_assoc]; exact h3.trans g3, g4⟩
theorem Out.less {α β : Type} {s : ByteArray} {i n m : Nat} {D : List Nd} {r : Res (α × β × List Nd)} {P : α → β → List Nd → Prop} (h : Out s i n D r P) (hm : m ≤ n) : Out s i m D r P := by
  cases r with
  | bad e => exact h
  | ok j x => exact ⟨by have := h.1; omega, h.2.1, h.2.2.1.less (by omega), h.2.2.2⟩
theorem Out.imp {α β : Type} {s : ByteArray} {i n : Nat} {D : List Nd} {r : Res (α × β × List Nd)} {P Q : α → β → List Nd → Prop} (h : Out s i n D r P) (hP : ∀ a b D', P a b D' → Q a b D') : Out s i n D r Q := by
  cases r with
  | bad e => exact h
  | ok j x => exact ⟨h.1, h.2.1, h.2.2.1, hP _ _ _ h.2.2.2⟩
/-- From i on; i lies m bytes behind i0. -/
theorem Out.from_ {α β : Type} {s : ByteArray} {i0 i n m : Nat} {D : List Nd} {r : Res (α × β × List Nd)} {P : α → β → List Nd → Prop} (h : Out s i n D r P) (hi : i0 + m = i) : Out s i0 (m + n) D r P := by
  cases r with
  | bad e => exact h
  | ok j x => exact ⟨by have := h.1; omega, h.2.1, h.2.2.1.less (by omega), h.2.2.2⟩
theorem dgs_len (s : ByteArray) (i : Nat) (hi : i ≤ s.size) : i + (dgs s i).length ≤ s.size := by
  have h : (dgs s i).length ≤ (s.data.toList.drop i).length := (List.takeWhile_sublist _).length_le
  rw [List.length_drop, str_len] at h
  omega
theorem dNum_from (s : ByteArray) (i : Nat) (hi : i ≤ s.size) : match dNum s i with | .bad e => e = i | .ok j n => i + 1 ≤ j ∧ j ≤ i + 4 ∧ j ≤ s.size := by
  have := dgs_len s i hi
  unfold dNum
  split
  · rename_i h; split at h
    · injection h with h; exact h.symm
    · cases h
  · rename_i j n h
    split at h
    · cases h
    · rename_i hc
      injection h with h1 h2
      omega
theorem dgV_fold (l : List UInt8) (hl : ∀ b ∈ l, digB b = true) : ∀ n, l.foldl (fun n b => n * 10 + (b.toNat - 48)) n + 1 ≤ (n + 1) * 10 ^ l.length := by
  induction l with
  | nil => intro n; simp
  | cons b l ih =>
    intro n
    have hb : 48 ≤ b.toNat ∧ b.toNat ≤ 57 := by have := hl b (by simp); simpa [digB] using this
    have := ih (fun c hc => hl c (by simp [hc])) (n * 10 + (b.toNat - 48))
    rw [List.foldl_cons, List.length_cons, Nat.pow_succ]
    refine Nat.le_trans this ?_
    rw [Nat.mul_comm (10 ^ l.length) 10, ← Nat.mul_assoc]
    exact Nat.mul_le_mul_right _ (by omega)
theorem mem_takeWhile {α : Type} {p : α → Bool} : ∀ {l : List α} {a : α}, a ∈ l.takeWhile p → p a = true
  | [], _, h => by simp at h
  | x :: l, a, h => by
    rw [List.takeWhile_cons] at h
    split at h
    · rename_i hx
      rcases List.mem_cons.1 h with rfl | h
      · exact hx
      · exact mem_takeWhile h
    · simp at h
theorem dgs_dig (s : ByteArray) (i : Nat) : ∀ b ∈ dgs s i, digB b = true := fun b hb => mem_takeWhile hb
theorem dNum_lt {s : ByteArray} {i j n : Nat} (h : dNum s i = .ok j n) : n < 10000 ∧ j = i + (dgs s i).length ∧ n = dgV (dgs s i) ∧ (dgs s i).length ≤ 4 ∧ 1 ≤ (dgs s i).length := by
  unfold dNum at h
  split at h
  · cases h
  · rename_i hc
    injection h with h1 h2
    have h3 := dgV_fold (dgs s i) (dgs_dig s i) 0
    have h4 : 10 ^ (dgs s i).length ≤ 10 ^ 4 := Nat.pow_le_pow_right (by decide) (by omega)
    refine ⟨?_, h1.symm, h2.symm, by omega, by omega⟩
    rw [← h2]
    unfold dgV
    omega
theorem idK_mem : ∀ (l : List UInt8) (j : Nat), idK j l = l.length → ∀ b ∈ l, (lettB b || digB b) = true
  | [], _, _, b, hb => by cases hb
  | c :: r, j, h, b, hb => by
    unfold idK at h
    split at h
    · rename_i hc
      rcases List.mem_cons.1 hb with rfl | hb
      · unfold okId at hc
        revert hc
        cases lettB b <;> cases digB b <;> simp
      · exact idK_mem r (j + 1) (by simpa using h) b hb
    · simp at h
theorem ext_toL (s : ByteArray) (i n : Nat) (h : i + n ≤ s.size) : (s.extract i (i + n)).data.toList = (s.data.toList.drop i).take n := by
  rw [ByteArray.data_extract, Array.toList_extract, List.extract_eq_take_drop]
  congr 1
  omega
theorem dId_ok {s : ByteArray} {i j : Nat} {x : ByteArray} (hi : i ≤ s.size) (h : dId s i = .ok j x) : i + 2 ≤ j ∧ j ≤ s.size ∧ x.size ≤ 60 ∧ 1 ≤ x.size ∧ x.size + i + 1 ≤ j ∧ ∀ b ∈ x.data.toList, (lettB b || digB b) = true := by
  unfold dId at h
  have hn := dNum_from s i hi
  cases hr : dNum s i with
  | bad e => rw [hr] at h; cases h
  | ok k n =>
    rw [hr] at h hn
    simp only [Res.bind] at h
    split at h
    · cases h
    · rename_i hc
      split at h
      · rename_i hid
        injection h with h1 h2
        have e := ext_toL s k n (by omega)
        have hz : x.size = n := by
          rw [← h2, ByteArray.size_extract]
          omega
        refine ⟨by omega, by omega, by omega, by omega, by omega, ?_⟩
        rw [← h2, e]
        unfold idN at hid
        refine idK_mem _ 0 ?_
        rw [hid, List.length_take, List.length_drop, str_len]
        omega
      · cases h
theorem dId_bad {s : ByteArray} {i e : Nat} (hi : i ≤ s.size) (h : dId s i = .bad e) : e ≤ s.size := by
  unfold dId at h
  have hn := dNum_from s i hi
  cases hr : dNum s i with
  | bad e' => rw [hr] at h hn; simp only [Res.bind] at h; injection h with h; simp only at hn; omega
  | ok k n =>
    rw [hr] at h hn
    simp only [Res.bind] at h
    split at h
    · injection h with h; omega
    · rename_i hc
      split at h
      · cases h
      · injection h with h
        have h1 := idK_le ((s.data.toList.drop k).take n) 0
        rw [List.length_take] at h1
        unfold idN at h
        omega
def OneOut (s : ByteArray) (one : List Nd → Nat → Res (Nat × Ty × List Nd)) : Prop := ∀ D i, i ≤ s.size → NOk D → Out s i 1 D (one D i) (fun a _ D' => a < D'.length)
theorem prefix_lt {D D' : List Nd} {l : List Nat} (h : D.length ≤ D'.length) (hl : ∀ a ∈ l, a < D.length) : ∀ a ∈ l, a < D'.length := fun a ha => Nat.lt_of_lt_of_le (hl a ha) h
theorem dTys_out {s : ByteArray} {one : List Nd → Nat → Res (Nat × Ty × List Nd)} (H : OneOut s one) : ∀ (g : Nat) (acc : List Ty) (ids : List Nat) (D : List Nd) (i : Nat), i ≤ s.size → NOk D → acc.length = ids.length → (∀ a ∈ ids, a < D.length) →
    Out s i 1 D (dTys s one g acc ids D i) (fun l b D' => l.length = b.length ∧ 0 < b.length ∧ ∀ a ∈ b, a < D'.length)
  | 0, _, _, _, i, hi, _, _, _ => hi
  | g + 1, acc, ids, D, i, hi, hD, hl, hids => by
    unfold dTys
    split
    · rename_i hc
      have := get_lt hc.2
      exact ⟨by omega, by omega, Ext.refl hD (by omega), hl, hl ▸ Nat.pos_of_ne_zero hc.1, hids⟩
    · refine (Out.bind (m := 1) (H D i hi hD) fun j a b D' _ h1 h2 h3 h4 => dTys_out H g _ _ D' j h2 h3.ok (by simp [hl]) ?_).less (by omega)
      intro x hx
      rcases List.mem_append.1 hx with hx | hx
      · exact prefix_lt h3.le hids x hx
      · obtain rfl := List.mem_singleton.1 hx; exact h4
theorem dArgs_out {s : ByteArray} {one : List Nd → Nat → Res (Nat × Ty × List Nd)} (H : OneOut s one) (D : List Nd) (i : Nat) (hi : i ≤ s.size) (hD : NOk D) :
    Out s i 0 D (dArgs s one D i) (fun l b D' => l.length = b.length ∧ ∀ a ∈ b, a < D'.length) := by
  unfold dArgs
  split
  · rename_i hc
    have := get_lt hc
    exact (((dTys_out H (s.size + 1) [] [] D (i + 1) (by omega) hD rfl (by simp)).imp (fun _ _ _ h => ⟨h.1, h.2.2⟩)).from_ (i0 := i) (m := 1) rfl).less (by omega)
  · exact ⟨by omega, hi, Ext.refl hD (Nat.le_refl _), rfl, by simp⟩
/-- The parts of a shape fit the list. -/
def ShP (n : Nat) (sh : List (ByteArray × List Nat)) : Prop := ∀ p ∈ sh, (∀ b ∈ p.1.data.toList, (lettB b || digB b) = true) ∧ ∀ a ∈ p.2, a < n
theorem ShP.mono {n m : Nat} {sh : List (ByteArray × List Nat)} (h : ShP n sh) (hn : n ≤ m) : ShP m sh := fun p hp => ⟨(h p hp).1, fun a ha => Nat.lt_of_lt_of_le ((h p hp).2 a ha) hn⟩
theorem dParts_out {s : ByteArray} {one : List Nd → Nat → Res (Nat × Ty × List Nd)} (H : OneOut s one) : ∀ (g : Nat) (acc : List Part) (sh : List (ByteArray × List Nat)) (D : List Nd) (i : Nat), i ≤ s.size → NOk D → ShP D.length sh →
    Out s i 1 D (dParts s one g acc sh D i) (fun _ b D' => ShP D'.length b)
  | 0, _, _, _, i, hi, _, _ => hi
  | g + 1, acc, sh, D, i, hi, hD, hsh => by
    unfold dParts
    split
    · rename_i hc
      have := get_lt hc.2
      exact ⟨by omega, by omega, Ext.refl hD (by omega), hsh⟩
    · cases hr : dId s i with
      | bad e => exact dId_bad hi hr
      | ok j x =>
        obtain ⟨h1, h2, h3, h4, h5, h6⟩ := dId_ok hi hr
        simp only [Res.bind]
        refine Out.less (m := 1) (n := (j - i) + (0 + 1)) ?_ (by omega)
        refine Out.from_ (i := j) (Out.bind (m := 1) (dArgs_out H D j h2 hD) fun k a b D' _ g1 g2 g3 g4 => dParts_out H g _ _ D' k g2 g3.ok ?_) (by omega)
        intro p hp
        rcases List.mem_append.1 hp with hp | hp
        · exact (hsh.mono g3.le) p hp
        · obtain rfl := List.mem_singleton.1 hp; exact ⟨h6, g4.2⟩
theorem dName_out {s : ByteArray} {one : List Nd → Nat → Res (Nat × Ty × List Nd)} (H : OneOut s one) (D : List Nd) (i : Nat) (hi : i ≤ s.size) (hD : NOk D) : Out s i 2 D (dName s one D i) (fun _ b D' => ShP D'.length b) := by
  unfold dName
  split
  · rename_i hc
    have := get_lt hc
    exact (dParts_out H _ _ _ D (i + 1) (by omega) hD (fun p hp => by cases hp)).from_ rfl
  · exact hi
theorem dNew_out {s : ByteArray} {D : List Nd} {i i0 j : Nat} {sh : Shp} {t : Ty} (hi : i0 ≤ s.size) (hj : j ≤ s.size) (hD : NOk D) (hsh : ShOk sh) (hij : i + 1 ≤ j) : match dNew D i0 sh t j with | .bad e => e = i0 | .ok q x => q = j ∧ x.2.2 = D ++ [(sh, t)] ∧ x.1 = D.length ∧ x.2.1 = t ∧ sh ∉ D.map (·.1) ∧ NOk (D ++ [(sh, t)]) := by
  unfold dNew
  split
  · rename_i h; split at h
    · injection h with h; exact h.symm
    · cases h
  · rename_i q x h
    split at h
    · cases h
    · rename_i hn
      injection h with h1 h2
      subst h1 h2
      refine ⟨rfl, rfl, rfl, rfl, hn, ?_, fun x hx => ?_⟩
      · rw [List.map_append, List.nodup_append]
        refine ⟨hD.nodup, by simp, fun a ha b hb => ?_⟩
        simp at hb
        exact fun e => hn (by rw [← hb, ← e]; exact ha)
      · rcases List.mem_append.1 hx with hx | hx
        · exact hD.ok x hx
        · obtain rfl := List.mem_singleton.1 hx; exact hsh
/-- A new type, behind something that was read. -/
theorem bind_new {α β : Type} {s : ByteArray} {i n : Nat} {D : List Nd} {r : Res (α × β × List Nd)} {P : α → β → List Nd → Prop} {F : α → β → Shp} {T : α → β → Ty} (h : Out s i n D r P) (hn : 2 ≤ n) (hi : i ≤ s.size) (hF : ∀ a b D', P a b D' → ShOk (F a b)) :
    Out s i 1 D (r.bind fun j x => dNew x.2.2 i (F x.1 x.2.1) (T x.1 x.2.1) j) (fun a _ D' => a < D'.length) := by
  cases r with
  | bad e => exact h
  | ok j x =>
    obtain ⟨h1, h2, h3, h4⟩ := h
    simp only [Res.bind]
    have := dNew_out (s := s) (D := x.2.2) (i := i) (i0 := i) (j := j) (sh := F x.1 x.2.1) (t := T x.1 x.2.1) hi h2 h3.ok (hF _ _ _ h4) (by omega)
    cases hr : dNew x.2.2 i (F x.1 x.2.1) (T x.1 x.2.1) j with
    | bad e => rw [hr] at this; simp only at this; show e ≤ s.size; omega
    | ok q y =>
      rw [hr] at this
      obtain ⟨rfl, e2, e3, e4, e5, e6⟩ := this
      refine ⟨by omega, h2, ?_, ?_⟩
      · rw [e2]
        refine ⟨h3.pre.trans (List.prefix_append _ _), e6, ?_⟩
        have := h3.len
        rw [List.length_append, List.length_singleton]
        omega
      · rw [e2, e3]; simp
theorem dPick_out {s : ByteArray} {D : List Nd} {i j n : Nat} (hi : i ≤ s.size) (hij : i + 1 ≤ j) (hj : j ≤ s.size) (hD : NOk D) : Out s i 1 D (dPick D i j n) (fun a _ D' => a < D'.length) := by
  unfold dPick
  split
  · rename_i x h
    exact ⟨hij, hj, Ext.refl hD hij, (List.getElem?_eq_some_iff.1 h).1⟩
  · exact hi
theorem dAgain_out {s : ByteArray} {D : List Nd} {i : Nat} (hi : i < s.size) (hD : NOk D) : Out s i 1 D (dAgain s D i) (fun a _ D' => a < D'.length) := by
  unfold dAgain
  have h := dNum_from s (i + 1) hi
  cases hr : dNum s (i + 1) with
  | bad e => rw [hr] at h; simp only at h; show e ≤ s.size; omega
  | ok j n =>
    rw [hr] at h
    simp only [Res.bind]
    split
    · rename_i hc
      have := get_lt hc
      exact dPick_out (by omega) (by omega) (by omega) hD
    · show j ≤ s.size; exact h.2.2
theorem dOne_out (s : ByteArray) : ∀ (f : Nat), OneOut s (dOne s f)
  | 0, D, i, hi, _ => hi
  | f + 1, D, i, hi, hD => by
    have IH := dOne_out s f
    unfold dOne
    split
    · rename_i h; exact dAgain_out (get_lt h) hD
    split
    · exact bind_new (F := fun _ b => ⟨1, b, []⟩) (T := fun a _ => Ty.mk 1 a []) (dName_out IH D i hi hD) (by omega) hi (fun a b D' h => .inl ⟨rfl, rfl, fun p hp => (h p hp).1⟩)
    split
    · rename_i h
      have := get_lt h
      exact bind_new (F := fun a _ => ⟨2, [], [a]⟩) (T := fun _ b => Ty.mk 2 [] [b]) ((IH D (i + 1) (by omega) hD).from_ rfl) (by omega) hi (fun a b D' h => .inr (.inl ⟨.inl rfl, rfl, rfl⟩))
    split
    · rename_i h
      have := get_lt h
      exact bind_new (F := fun a _ => ⟨3, [], [a]⟩) (T := fun _ b => Ty.mk 3 [] [b]) ((IH D (i + 1) (by omega) hD).from_ rfl) (by omega) hi (fun a b D' h => .inr (.inl ⟨.inr rfl, rfl, rfl⟩))
    split
    · rename_i h
      have := get_lt h
      exact bind_new (F := fun _ b => ⟨4, [], b⟩) (T := fun a _ => Ty.mk 4 [] a) ((dTys_out IH (s.size + 1) [] [] D (i + 1) (by omega) hD rfl (by simp)).from_ rfl) (by omega) hi (fun a b D' h => .inr (.inr ⟨rfl, rfl⟩))
    · exact hi
end Go.Proofs.YtocpmbpckbjepaaDoor

/- The keys by which both readers of mangled symbols tell types that were read. No program. -/
namespace Go.Proofs.YtocpmbpckbjepaaDoor
open Go.RowKit
set_option linter.unusedVariables false
set_option linter.unusedSimpArgs false
def pIds (l : List Nat) : List UInt8 := l.flatMap fun (n : Nat) => toldL (n : Int) ++ [44]
def pBody (p : ByteArray × List Nat) : List UInt8 := p.1.data.toList ++ (if p.2.length = 0 then [] else 60 :: (pIds p.2 ++ [62]))
def pPartsK (l : List (ByteArray × List Nat)) : List UInt8 := l.flatMap fun p => pBody p ++ [46]
def rPartsK (l : List (ByteArray × List Nat)) : List UInt8 := l.flatMap fun p => 46 :: pBody p
/-- The program's key. -/
def pK (h : Shp) : List UInt8 := if h.kind = 1 then 78 :: pPartsK h.name else if h.kind = 4 then 70 :: pIds h.of else (if h.kind = 2 then 82 else 76) :: h.of.flatMap fun (n : Nat) => toldL (n : Int)
/-- The reference's key. -/
def rK (h : Shp) : List UInt8 := if h.kind = 1 then rPartsK h.name else if h.kind = 4 then 52 :: 58 :: pIds h.of else (if h.kind = 2 then 50 else 51) :: 58 :: h.of.flatMap fun (n : Nat) => toldL (n : Int)
theorem sep_inj {α : Type} {c : UInt8} {g : α → List UInt8} {P : α → Prop} (hg : ∀ a, P a → c ∉ g a) (hi : ∀ a b, P a → P b → g a = g b → a = b) : ∀ (l l' : List α), (∀ a ∈ l, P a) → (∀ a ∈ l', P a) → (l.flatMap fun a => g a ++ [c]) = (l'.flatMap fun a => g a ++ [c]) → l = l'
  | [], [], _, _, _ => rfl
  | [], b :: l', _, _, h => by simp at h
  | a :: l, [], _, _, h => by simp at h
  | a :: l, b :: l', h1, h2, h => by
    have ha := hg a (h1 a (by simp))
    have hb := hg b (h2 b (by simp))
    have key : ∀ (x y r r' : List UInt8), c ∉ x → c ∉ y → x ++ c :: r = y ++ c :: r' → x = y ∧ r = r' := by
      intro x
      induction x with
      | nil =>
        intro y r r' _ hy e
        cases y with
        | nil => simp at e; exact ⟨rfl, e⟩
        | cons z y => simp at e; exact absurd (by simp [e.1]) hy
      | cons z x ih =>
        intro y r r' hx hy e
        cases y with
        | nil => simp at e; exact absurd (by simp [e.1]) hx
        | cons z' y =>
          simp at e hx hy
          obtain ⟨e1, e2⟩ := ih y r r' hx.2 hy.2 e.2
          exact ⟨by rw [e.1, e1], e2⟩
    simp only [List.flatMap_cons, List.append_assoc, List.singleton_append] at h
    obtain ⟨e1, e2⟩ := key _ _ _ _ ha hb h
    rw [hi a b (h1 a (by simp)) (h2 b (by simp)) e1, sep_inj hg hi l l' (fun x hx => h1 x (by simp [hx])) (fun x hx => h2 x (by simp [hx])) e2]
theorem pre_sep {α : Type} (c : UInt8) (g : α → List UInt8) : ∀ (l : List α), (l.flatMap fun a => c :: g a) ++ [c] = c :: (l.flatMap fun a => g a ++ [c])
  | [] => rfl
  | a :: l => by
    simp only [List.flatMap_cons, List.append_assoc, List.cons_append, pre_sep c g l]
    simp
theorem told_inj {n m : Nat} (h : toldL (n : Int) = toldL (m : Int)) : n = m := digs_inj _ _ (by simpa [toldL] using h)
theorem told_not {n : Nat} {c : UInt8} (hc : digB c = false) : c ∉ toldL (n : Int) := fun h => by have := digs_dig _ c h; rw [hc] at this; cases this
theorem pIds_inj {l l' : List Nat} (h : pIds l = pIds l') : l = l' := sep_inj (P := fun _ => True) (fun _ _ => told_not (by decide)) (fun _ _ _ _ e => told_inj e) l l' (fun _ _ => trivial) (fun _ _ => trivial) h
theorem pIds_not {l : List Nat} {c : UInt8} (hc : digB c = false) (h44 : c ≠ 44) : c ∉ pIds l := fun h => by
  unfold pIds at h
  obtain ⟨n, _, hn⟩ := List.mem_flatMap.1 h
  rcases List.mem_append.1 hn with hn | hn
  · exact told_not hc hn
  · exact h44 (List.mem_singleton.1 hn)
def TxtB (p : ByteArray × List Nat) : Prop := ∀ b ∈ p.1.data.toList, (lettB b || digB b) = true
theorem txtB_not {p : ByteArray × List Nat} (h : TxtB p) {c : UInt8} (hc : (lettB c || digB c) = false) : c ∉ p.1.data.toList := fun hm => by have := h c hm; rw [hc] at this; cases this
theorem pBody_not {p : ByteArray × List Nat} (h : TxtB p) : (46 : UInt8) ∉ pBody p := fun hm => by
  unfold pBody at hm
  rcases List.mem_append.1 hm with hm | hm
  · exact txtB_not h (by decide) hm
  · split at hm
    · cases hm
    · rcases List.mem_cons.1 hm with hm | hm
      · cases hm
      · rcases List.mem_append.1 hm with hm | hm
        · exact pIds_not (by decide) (by decide) hm
        · cases List.mem_singleton.1 hm
theorem split_at {c : UInt8} : ∀ (x y r r' : List UInt8), c ∉ x → c ∉ y → (∀ d, r.head? = some d → d = c) → (∀ d, r'.head? = some d → d = c) → x ++ r = y ++ r' → x = y ∧ r = r'
  | [], [], r, r', _, _, _, _, h => ⟨rfl, h⟩
  | [], z :: y, r, r', _, hy, hr, _, h => by
    have : r.head? = some z := by simp at h; rw [h]; rfl
    exact absurd (by simp [hr z this]) hy
  | z :: x, [], r, r', hx, _, _, hr', h => by
    have : r'.head? = some z := by simp at h; rw [← h]; rfl
    exact absurd (by simp [hr' z this]) hx
  | z :: x, z' :: y, r, r', hx, hy, hr, hr', h => by
    simp at h hx hy
    obtain ⟨e1, e2⟩ := split_at x y r r' hx.2 hy.2 hr hr' h.2
    exact ⟨by rw [h.1, e1], e2⟩
theorem pBody_inj {p q : ByteArray × List Nat} (hp : TxtB p) (hq : TxtB q) (h : pBody p = pBody q) : p = q := by
  unfold pBody at h
  have hh : ∀ (l : List Nat) (d : UInt8), (if l.length = 0 then ([] : List UInt8) else 60 :: (pIds l ++ [62])).head? = some d → d = 60 := fun l d hd => by
    split at hd
    · cases hd
    · simp at hd; exact hd.symm
  obtain ⟨e1, e2⟩ := split_at (c := 60) _ _ _ _ (txtB_not hp (by decide)) (txtB_not hq (by decide)) (hh p.2) (hh q.2) h
  have e1' : p.1 = q.1 := by
    have : p.1.data = q.1.data := Array.toList_inj.1 e1
    cases hx : p.1; cases hy : q.1; rw [hx, hy] at this; simp at this; rw [this]
  refine Prod.ext e1' ?_
  by_cases h0 : p.2.length = 0
  · by_cases h0' : q.2.length = 0
    · rw [List.length_eq_zero_iff.1 h0, List.length_eq_zero_iff.1 h0']
    · rw [if_pos h0, if_neg h0'] at e2; cases e2
  · by_cases h0' : q.2.length = 0
    · rw [if_neg h0, if_pos h0'] at e2; cases e2
    · rw [if_neg h0, if_neg h0'] at e2
      simp at e2
      exact pIds_inj e2
theorem pParts_inj {l l' : List (ByteArray × List Nat)} (h1 : ∀ p ∈ l, TxtB p) (h2 : ∀ p ∈ l', TxtB p) (h : pPartsK l = pPartsK l') : l = l' :=
  sep_inj (P := TxtB) (fun _ hp => pBody_not hp) (fun _ _ ha hb e => pBody_inj ha hb e) l l' h1 h2 h
theorem rParts_inj {l l' : List (ByteArray × List Nat)} (h1 : ∀ p ∈ l, TxtB p) (h2 : ∀ p ∈ l', TxtB p) (h : rPartsK l = rPartsK l') : l = l' := by
  refine pParts_inj h1 h2 ?_
  have a := pre_sep 46 pBody l
  have b := pre_sep 46 pBody l'
  unfold rPartsK at h
  rw [h, b] at a
  simpa [pPartsK] using a.symm
theorem one_nat {l : List Nat} (h : l.length = 1) : ∃ x, l = [x] := by
  match l, h with
  | [x], _ => exact ⟨x, rfl⟩
theorem rParts_head (l : List (ByteArray × List Nat)) : ∀ d, (rPartsK l).head? = some d → d = 46 := fun d hd => by
  cases l with
  | nil => cases hd
  | cons p l => simp [rPartsK] at hd; exact hd.symm
theorem pK_inj {h h' : Shp} (a : ShOk h) (b : ShOk h') (e : pK h = pK h') : h = h' := by
  obtain ⟨k, n, o⟩ := h
  obtain ⟨k', n', o'⟩ := h'
  rcases a with ⟨rfl, rfl, a⟩ | ⟨a0, rfl, a⟩ | ⟨rfl, rfl⟩ <;> rcases b with ⟨rfl, rfl, b⟩ | ⟨b0, rfl, b⟩ | ⟨rfl, rfl⟩
  · simp [pK] at e; obtain rfl : n = n' := pParts_inj a b e; rfl
  · rcases b0 with rfl | rfl <;> simp [pK] at e
  · simp [pK] at e
  · rcases a0 with rfl | rfl <;> simp [pK] at e
  · obtain ⟨x, rfl⟩ := one_nat a
    obtain ⟨y, rfl⟩ := one_nat b
    rcases a0 with rfl | rfl <;> rcases b0 with rfl | rfl <;> first | (simp [pK] at e; done) | (simp [pK] at e; rw [told_inj e])
  · rcases a0 with rfl | rfl <;> simp [pK] at e
  · simp [pK] at e
  · rcases b0 with rfl | rfl <;> simp [pK] at e
  · simp [pK] at e; rw [pIds_inj e]
theorem rK_inj {h h' : Shp} (a : ShOk h) (b : ShOk h') (e : rK h = rK h') : h = h' := by
  obtain ⟨k, n, o⟩ := h
  obtain ⟨k', n', o'⟩ := h'
  have hne : ∀ (l : List (ByteArray × List Nat)) (c : UInt8) (r : List UInt8), c ≠ 46 → rPartsK l ≠ c :: r := fun l c r hc h => hc (rParts_head l c (by rw [h]; rfl))
  rcases a with ⟨rfl, rfl, a⟩ | ⟨a0, rfl, a⟩ | ⟨rfl, rfl⟩ <;> rcases b with ⟨rfl, rfl, b⟩ | ⟨b0, rfl, b⟩ | ⟨rfl, rfl⟩
  · simp [rK] at e; obtain rfl : n = n' := rParts_inj a b e; rfl
  · rcases b0 with rfl | rfl <;> simp [rK] at e <;> exact absurd e (hne _ _ _ (by decide))
  · simp [rK] at e; exact absurd e (hne _ _ _ (by decide))
  · rcases a0 with rfl | rfl <;> simp [rK] at e <;> exact absurd e.symm (hne _ _ _ (by decide))
  · obtain ⟨x, rfl⟩ := one_nat a
    obtain ⟨y, rfl⟩ := one_nat b
    rcases a0 with rfl | rfl <;> rcases b0 with rfl | rfl <;> first | (simp [rK] at e; done) | (simp [rK] at e; rw [told_inj e])
  · rcases a0 with rfl | rfl <;> simp [rK] at e
  · simp [rK] at e; exact absurd e.symm (hne _ _ _ (by decide))
  · rcases b0 with rfl | rfl <;> simp [rK] at e
  · simp [rK] at e; rw [pIds_inj e]
/-- The keys of what was read. -/
def pKs (D : List Nd) : List (List UInt8) := D.map fun x => pK x.1
def rKs (D : List Nd) : List (List UInt8) := D.map fun x => rK x.1
theorem keys_mem {K : Shp → List UInt8} (hK : ∀ h h', ShOk h → ShOk h' → K h = K h' → h = h') {D : List Nd} (hD : NOk D) {h : Shp} (hh : ShOk h) : (D.map fun x => K x.1).contains (K h) = decide (h ∈ D.map (·.1)) := by
  rw [Bool.eq_iff_iff]
  simp only [List.contains_iff_mem, decide_eq_true_eq, List.mem_map]
  constructor
  · rintro ⟨x, hx, e⟩; exact ⟨x, hx, hK _ _ (hD.ok x hx) hh e⟩
  · rintro ⟨x, hx, rfl⟩; exact ⟨x, hx, rfl⟩
theorem pKs_mem {D : List Nd} (hD : NOk D) {h : Shp} (hh : ShOk h) : (pKs D).contains (pK h) = decide (h ∈ D.map (·.1)) := keys_mem (fun _ _ a b e => pK_inj a b e) hD hh
theorem rKs_mem {D : List Nd} (hD : NOk D) {h : Shp} (hh : ShOk h) : (rKs D).contains (rK h) = decide (h ∈ D.map (·.1)) := keys_mem (fun _ _ a b e => rK_inj a b e) hD hh
end Go.Proofs.YtocpmbpckbjepaaDoor
