/- Silences: walks of their checks, and of silent (printed by gen_a5.py). -/
import Derived.Test.YtnkccilgbhogbaaDoorAlSum
namespace Go.Proofs.YtnkccilgbhogbaaDoor
open Go.RowKit
set_option linter.unusedVariables false
set_option linter.unusedSimpArgs false
structure Sil where
  rule : ByteArray
  fr : Int
  upto : Int
/-- The cells of a silence. -/
def Sil.cs (s : Sil) : List Value := [.string s.rule, .int .i64 s.fr, .int .i64 s.upto]
def momB (n : Int) : Bool := !outsideB n 0 3155759999
def silErr (s : Sil) : Int := if s.rule.size ≠ 0 ∧ nameB s.rule = false then 3 else if momB s.fr = false ∨ momB s.upto = false then 2 else if s.upto < s.fr then 5 else 0
def silErrAt (l : List Sil) (k : Nat) : Int := match l[k]? with
  | none => 0
  | some s => silErr s
def silsErr (l : List Sil) : Int := if 50 < l.length then 4 else firstErr (silErrAt l) l.length
theorem silErrAt_eq {l : List Sil} {k : Nat} {s : Sil} {e : Int} (h : l[k]? = some s) (he : silErr s = e) : silErrAt l k = e := by rw [silErrAt, h]; exact he
theorem silsErr_hit {l : List Sil} {k : Nat} (h : ¬ 50 < l.length) (h0 : ∀ j, j < k → silErrAt l j = 0) (hk : k < l.length) {v : Int} (hv : silErrAt l k = v) (hne : v ≠ 0) : silsErr l = v := by
  rw [silsErr, if_neg h, firstErr_hit h0 hk (by rw [hv]; exact hne), hv]
theorem silsErr_none {l : List Sil} (h : ¬ 50 < l.length) (h0 : ∀ j, j < l.length → silErrAt l j = 0) : silsErr l = 0 := by
  rw [silsErr, if_neg h, firstErr_zero h0]
def silHit (name : ByteArray) (t : Int) (s : Sil) : Bool := (decide (s.rule.size = 0) || beqS s.rule name) && decide (s.fr ≤ t) && decide (t ≤ s.upto)
def silB (name : ByteArray) (t : Int) (l : List Sil) : Bool := l.any (silHit name t)
def SilFit (l : List Sil) : Prop := ∀ s ∈ l, s.rule.size ≤ maxLen
end Go.Proofs.YtnkccilgbhogbaaDoor
