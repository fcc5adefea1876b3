/- Walk of AlertRulesError (printed by gen_a2.py). -/
import Derived.Test.YtnkccilgbhogbaaDoorAlChk
import Derived.Test.YtnkccilgbhogbaaDoorOwnMore
namespace Go.Proofs.YtnkccilgbhogbaaDoor
open Go.RowKit
set_option linter.unusedVariables false
set_option linter.unusedSimpArgs false
/-- '==' of two strings, as the walk has it. -/
def beqS (a b : ByteArray) : Bool := a.data.toList == b.data.toList
theorem beqS_toList (a b : ByteArray) : (a.toList == b.toList) = beqS a b := by rw [ByteArray.toList_eq, ByteArray.toList_eq]; rfl
def rlKeys (l : List Rl) : List (List UInt8) := l.map fun x => x.name.data.toList
/-- The error at place k of rules. -/
def rlErrAt (l : List Rl) (k : Nat) : Int :=
  match l[k]? with
  | none => 0
  | some x => if nameB x.name then (if (rlKeys (l.take k)).contains x.name.data.toList then 6 else ruleErr x) else 3
def rlErr (l : List Rl) : Int := if 50 < l.length then 4 else firstErr (rlErrAt l) l.length
def anyName (l : List Rl) (k : ByteArray) : Bool := l.any fun x => beqS x.name k
theorem anyName_keys (l : List Rl) (k : ByteArray) : anyName l k = (rlKeys l).contains k.data.toList := by
  unfold anyName rlKeys beqS
  induction l with
  | nil => rfl
  | cons x l ih => simp only [List.any_cons, List.map_cons, List.contains_cons, ih]; congr 1; rw [Bool.eq_iff_iff]; simp; exact ⟨Eq.symm, Eq.symm⟩
theorem anyName_snoc (l : List Rl) (x : Rl) (k : ByteArray) : anyName (l ++ [x]) k = (anyName l k || beqS x.name k) := by simp [anyName]
theorem rlErrAt_name {l : List Rl} {k : Nat} {x : Rl} (hx : l[k]? = some x) (h : nameB x.name = false) : rlErrAt l k = 3 := by
  rw [rlErrAt, hx]; simp only [h]; rfl
theorem rlErrAt_twice {l : List Rl} {k : Nat} {x : Rl} (hx : l[k]? = some x) (h : nameB x.name = true) (h2 : anyName (l.take k) x.name = true) : rlErrAt l k = 6 := by
  rw [anyName_keys] at h2; rw [rlErrAt, hx]; simp only [h, h2]; rfl
theorem rlErrAt_rule {l : List Rl} {k : Nat} {x : Rl} {e : Int} (hx : l[k]? = some x) (h : nameB x.name = true) (h2 : anyName (l.take k) x.name = false) (h3 : ruleErr x = e) : rlErrAt l k = e := by
  rw [anyName_keys] at h2; rw [rlErrAt, hx]; simp only [h, h2, h3]; rfl
theorem rlErr_hit {l : List Rl} {k : Nat} (h : ¬ 50 < l.length) (h0 : ∀ j, j < k → rlErrAt l j = 0) (hk : k < l.length) {v : Int} (hv : rlErrAt l k = v) (hne : v ≠ 0) : rlErr l = v := by
  rw [rlErr, if_neg h, firstErr_hit h0 hk (by rw [hv]; exact hne), hv]
theorem rlErr_none {l : List Rl} (h : ¬ 50 < l.length) (h0 : ∀ j, j < l.length → rlErrAt l j = 0) : rlErr l = 0 := by
  rw [rlErr, if_neg h, firstErr_zero h0]
/-- Names and keys that are not too long to be held at all. -/
def RlFit (l : List Rl) : Prop := ∀ x ∈ l, x.name.size ≤ maxLen ∧ x.key.size ≤ maxLen
end Go.Proofs.YtnkccilgbhogbaaDoor
