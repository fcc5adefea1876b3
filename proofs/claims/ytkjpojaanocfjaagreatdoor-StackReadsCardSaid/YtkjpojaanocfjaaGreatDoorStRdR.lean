/- Walk of frameOf, name (lemmas) (printed by gen_so.py). -/
import Derived.Test.YtkjpojaanocfjaaGreatDoorStRdO
namespace Go.Proofs.YtkjpojaanocfjaaGreatDoor
open Go.RowKit
set_option linter.unusedVariables false
set_option linter.unusedSimpArgs false
theorem head_o {bb oo n : Nat} {x : ByteArray} {r : List ByteArray} {M F f : ByteArray} {l a : Int} {o : Bool} {w W : World} (h : FoI (some ⟨bb, oo, none⟩) (n + 1) (x :: r) M F f l a o w W) : W.cell? ⟨bb, oo, none⟩ = some (.string x) := by
  obtain ⟨b', o', x', e, _, hx, hcc⟩ := h.sl.at_ (k := 0) (by omega)
  simp at e hx
  obtain ⟨rfl, rfl⟩ := e
  subst hx
  simpa using hcc 0 _ rfl
/-- What frameOf answers. -/
def FoOut (R : Option Frm) (e : Ending) : Prop := ∃ M F f l a o, e = .returned (.tuple #[frAgg M F f l a o, .bool R.isSome]) ∧ (R = some (M, F, f, l, a, o) ∨ R = none) ∧ M.size ≤ 1000000 ∧ F.size ≤ 1000000 ∧ f.size ≤ 1000000
theorem word_m (s : ByteArray) (w : World) (hs : s.size ≤ maxLen) : Calls Tryz.prog 54 #[.string s, .string ⟨#[40, 41, 58, 44, 33]⟩] w fun e w' => e = .returned (.bool (!emptyB s && wordX s)) ∧ w = w' := word_any s ⟨#[40, 41, 58, 44, 33]⟩ w hs
theorem word_f (s : ByteArray) (w : World) (hs : s.size ≤ maxLen) : Calls Tryz.prog 54 #[.string s, .string ⟨#[40, 41, 58, 44]⟩] w fun e w' => e = .returned (.bool (!emptyB s && wordB s)) ∧ w = w' := word_any s ⟨#[40, 41, 58, 44]⟩ w hs
theorem pre_other {x : ByteArray} {a b : UInt8} (h : preB x a = true) (hab : ¬ a = b) : preB x b = false := by
  unfold preB Lib.hasPrefix at *
  cases hx : x.data.toList with
  | nil => rw [hx] at h; simp at h
  | cons c l => rw [hx] at h; simp [List.isPrefixOf] at h ⊢; intro e; exact hab (h.trans e.symm)
theorem fileK_eq (y : ByteArray) : fileK y = (sfxK (restB y) && ((!emptyB (cutL (sfxS (restB y)) 58) && wordB (cutL (sfxS (restB y)) 58)) && (!cutK (sfxS (restB y)) 58 || (numK 10 7 (cutR (sfxS (restB y)) 58) && !(numO 10 7 (cutR (sfxS (restB y)) 58) == 0))))) := by
  unfold fileK; rw [Bool.and_assoc]
/-- Which ways the rest of a line goes. -/
def wayO (r : ByteArray) : Nat := match wordsOf r with
  | [] => 1
  | y :: _ => if emptyB r then 1 else if preB y 40 then (if sfxK y && (!decide (y.size ≤ 2) && cutK (sfxS (restB y)) 58) then 3 else 2) else 1
theorem wordsOf_cons (s : ByteArray) : ∃ y q, wordsOf s = y :: q := ⟨_, _, wordsOf_cut s⟩
end Go.Proofs.YtkjpojaanocfjaaGreatDoor
