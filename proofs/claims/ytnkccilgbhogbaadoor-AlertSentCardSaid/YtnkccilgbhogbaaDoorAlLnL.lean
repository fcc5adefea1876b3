/- What the lines of a post say, in plain Lean. -/
import Derived.Test.YtnkccilgbhogbaaDoorAlEq
import Derived.Test.YtnkccilgbhogbaaDoorRowSet
namespace Go.Proofs.YtnkccilgbhogbaaDoor
open Go.RowKit
set_option linter.unusedVariables false
set_option linter.unusedSimpArgs false
structure Sm where
  rule : ByteArray
  first : Bool
  last : Bool
  value : Int
/-- The cells of what the notices of a rule say together. -/
def Sm.cs (s : Sm) : List Value := [.string s.rule, .bool s.first, .bool s.last, .int .i64 s.value]
/-- The names of rules, in the order of their first notices. -/
def hasR (acc : List ByteArray) (r : ByteArray) : Bool := acc.any fun q => decide (q = r)
theorem hasR_iff (acc : List ByteArray) (r : ByteArray) : hasR acc r = true ↔ r ∈ acc := by
  unfold hasR
  rw [List.any_eq_true]
  constructor
  · rintro ⟨q, hq, h⟩
    have := of_decide_eq_true h
    subst this; exact hq
  · intro h; exact ⟨r, h, by simp⟩
def nmStep (acc : List ByteArray) (x : Nt) : List ByteArray := if hasR acc x.rule = true then acc else acc ++ [x.rule]
def ruN (l : List Nt) : List ByteArray := l.foldl nmStep []
def ofR (r : ByteArray) (l : List Nt) : List Nt := l.filter fun x => decide (x.rule = r)
def began (x : Nt) : Bool := decide (x.kind = 1)
def smAcc (s : Option Sm) (x : Nt) : Option Sm := match s with
  | none => some ⟨x.rule, began x, began x, x.value⟩
  | some s => some ⟨s.rule, s.first, began x, max s.value x.value⟩
/-- What the notices of rule r say together, if there are any. -/
def smO (r : ByteArray) (l : List Nt) : Option Sm := (ofR r l).foldl smAcc none
def smOf (l : List Nt) (r : ByteArray) : Sm := (smO r l).getD ⟨r, false, false, 0⟩
def smL (l : List Nt) : List Sm := (ruN l).map (smOf l)
theorem ruN_snoc (l : List Nt) (x : Nt) : ruN (l ++ [x]) = nmStep (ruN l) x := by simp [ruN]
theorem smO_snoc (r : ByteArray) (l : List Nt) (x : Nt) : smO r (l ++ [x]) = if x.rule = r then smAcc (smO r l) x else smO r l := by
  unfold smO ofR
  rw [List.filter_append, List.foldl_append]
  by_cases h : x.rule = r <;> simp [h]
theorem mem_ind {α : Type} {P : List α → Prop} (h0 : P []) (h1 : ∀ l x, P l → P (l ++ [x])) (l : List α) : P l := by
  have : ∀ m : List α, P m.reverse := by
    intro m
    induction m with
    | nil => exact h0
    | cons x m ih => rw [List.reverse_cons]; exact h1 _ _ ih
  simpa using this l.reverse
theorem mem_ruN (l : List Nt) (r : ByteArray) : r ∈ ruN l ↔ ∃ x ∈ l, x.rule = r := by
  refine mem_ind (P := fun l => r ∈ ruN l ↔ ∃ x ∈ l, x.rule = r) (by simp [ruN]) (fun l x ih => ?_) l
  rw [ruN_snoc]
  unfold nmStep
  split
  · rename_i hx
    rw [hasR_iff] at hx
    rw [ih]
    constructor
    · rintro ⟨y, hy, h⟩; exact ⟨y, by simp [hy], h⟩
    · rintro ⟨y, hy, h⟩
      rcases List.mem_append.1 hy with hy | hy
      · exact ⟨y, hy, h⟩
      · simp at hy; subst hy; subst h; exact ih.1 hx
  · rw [List.mem_append, ih]
    constructor
    · rintro (⟨y, hy, h⟩ | h)
      · exact ⟨y, by simp [hy], h⟩
      · simp at h; exact ⟨x, by simp, h.symm⟩
    · rintro ⟨y, hy, h⟩
      rcases List.mem_append.1 hy with hy | hy
      · exact .inl ⟨y, hy, h⟩
      · simp at hy; subst hy; exact .inr (by simp [h])
theorem nodup_ruN (l : List Nt) : (ruN l).Nodup := by
  refine mem_ind (P := fun l => (ruN l).Nodup) (by simp [ruN]) (fun l x ih => ?_) l
  rw [ruN_snoc]
  unfold nmStep
  split
  · exact ih
  · rename_i hx
    rw [hasR_iff] at hx
    rw [List.nodup_append]
    exact ⟨ih, by simp, fun a ha b hb => by simp at hb; subst hb; intro e; subst e; exact hx ha⟩
theorem ruN_len (l : List Nt) : (ruN l).length ≤ l.length := by
  refine mem_ind (P := fun l => (ruN l).length ≤ l.length) (by simp [ruN]) (fun l x ih => ?_) l
  rw [ruN_snoc]
  unfold nmStep
  split <;> simp <;> omega
theorem smO_rule (r : ByteArray) (l : List Nt) : ∀ s, smO r l = some s → s.rule = r := by
  refine mem_ind (P := fun l => ∀ s, smO r l = some s → s.rule = r) (by simp [smO, ofR]) (fun l x ih => ?_) l
  intro s hs
  rw [smO_snoc] at hs
  split at hs
  · rename_i hx
    unfold smAcc at hs
    split at hs
    · simp at hs; rw [← hs]; exact hx
    · rename_i s' hs'; simp at hs; have := ih _ hs'; rw [← hs]; exact this
  · exact ih _ hs
theorem smO_none (r : ByteArray) (l : List Nt) (h : r ∉ ruN l) : smO r l = none := by
  unfold smO
  have : ofR r l = [] := by
    unfold ofR
    rw [List.filter_eq_nil_iff]
    intro x hx hr
    exact h ((mem_ruN l r).2 ⟨x, hx, by simpa using hr⟩)
  rw [this]; rfl
theorem smO_some (r : ByteArray) (l : List Nt) (h : r ∈ ruN l) : ∃ s, smO r l = some s := by
  revert h
  refine mem_ind (P := fun l => r ∈ ruN l → ∃ s, smO r l = some s) (by simp [ruN]) (fun l x ih => ?_) l
  intro h
  rw [smO_snoc]
  split
  · rename_i hx
    unfold smAcc; split <;> exact ⟨_, rfl⟩
  · rename_i hx
    rw [ruN_snoc] at h
    unfold nmStep at h
    split at h
    · exact ih h
    · rcases List.mem_append.1 h with h | h
      · exact ih h
      · simp at h; exact absurd h.symm hx
/-- A notice of a rule that is there: its place is set. -/
theorem smL_old (l : List Nt) (x : Nt) (i : Nat) (hi : (ruN l)[i]? = some x.rule) : ∃ s, (smL l)[i]? = some s ∧ s.rule = x.rule ∧ smL (l ++ [x]) = (smL l).set i ⟨s.rule, s.first, began x, max s.value x.value⟩ ∧ ruN (l ++ [x]) = ruN l := by
  have hm : x.rule ∈ ruN l := List.mem_of_getElem? hi
  obtain ⟨s, hs⟩ := smO_some x.rule l hm
  have hn : ruN (l ++ [x]) = ruN l := by rw [ruN_snoc, nmStep, if_pos ((hasR_iff _ _).2 hm)]
  have hso : smOf l x.rule = s := by rw [smOf, hs]; rfl
  refine ⟨s, by rw [smL, List.getElem?_map, hi]; simp [hso], smO_rule _ _ _ hs, ?_, hn⟩
  unfold smL
  rw [hn]
  apply List.ext_getElem?
  intro k
  rw [List.getElem?_map, List.getElem?_set, List.getElem?_map]
  by_cases hk : i = k
  · subst hk
    have hil := (List.getElem?_eq_some_iff.1 hi).1
    rw [hi, if_pos rfl, if_pos (by rw [List.length_map]; exact hil)]
    simp only [Option.map_some]
    rw [smOf, smO_snoc, if_pos rfl, hs]
    rfl
  · rw [if_neg hk]
    cases hr : (ruN l)[k]? with
    | none => rfl
    | some r =>
      have hne : x.rule ≠ r := fun e => by
        subst e
        have h1 := (List.getElem?_eq_some_iff.1 hi).1
        exact hk ((List.getElem?_inj h1 (nodup_ruN l)).1 (hi.trans hr.symm))
      simp only [Option.map_some]
      rw [smOf, smO_snoc, if_neg hne]
      rfl
/-- A notice of a new rule. -/
theorem smL_new (l : List Nt) (x : Nt) (h : x.rule ∉ ruN l) : smL (l ++ [x]) = smL l ++ [⟨x.rule, began x, began x, x.value⟩] ∧ ruN (l ++ [x]) = ruN l ++ [x.rule] := by
  have hn : ruN (l ++ [x]) = ruN l ++ [x.rule] := by rw [ruN_snoc, nmStep, if_neg (fun e => h ((hasR_iff _ _).1 e))]
  refine ⟨?_, hn⟩
  unfold smL
  rw [hn, List.map_append]
  congr 1
  · refine List.map_congr_left fun r hr => ?_
    rw [smOf, smO_snoc, if_neg (fun e => h (by rw [e]; exact hr))]
    rfl
  · simp only [List.map_cons, List.map_nil]
    rw [smOf, smO_snoc, if_pos rfl, smO_none _ _ h]
    rfl
def wordsOf (f l : Bool) : ByteArray := if f && l then " began".toUTF8 else if f then " began and is over".toUTF8 else if l then " is over and began again".toUTF8 else " over".toUTF8
end Go.Proofs.YtnkccilgbhogbaaDoor
