/- Plain law of the readers: faults by lines, form by form. -/
import Derived.Test.YtkjpojaanocfjaaGreatDoorStRdV
import Derived.Test.YtkjpojaanocfjaaGreatDoorStCulp
namespace Go.Proofs.YtkjpojaanocfjaaGreatDoor
open Go.RowKit
set_option linter.unusedVariables false
set_option linter.unusedSimpArgs false
/-- A fault as it reads. -/
structure Flt where
  kind : ByteArray
  text : ByteArray
  frs : List Frame
  deriving DecidableEq
def FaultT.flt (x : FaultT) : Flt := ⟨x.kind, x.text, x.frs⟩
def frmF (x : Frm) : Frame := ⟨x.1, x.2.1, x.2.2.1, x.2.2.2.1, x.2.2.2.2.1, x.2.2.2.2.2⟩
abbrev RdR := Option (List Flt) × Nat
def preAt : ByteArray := ⟨#[32, 32, 32, 32, 97, 116, 32]⟩
def preDots : ByteArray := ⟨#[32, 32, 32, 32, 46, 46, 46, 32]⟩
def preCaused : ByteArray := ⟨#[67, 97, 117, 115, 101, 100, 32, 98, 121, 58, 32]⟩
def sfxMore : ByteArray := ⟨#[32, 109, 111, 114, 101]⟩
def hasP (s pre : ByteArray) : Bool := Lib.hasPrefix s.data.toList pre.data.toList
/-- Frames, line by line. -/
def frsFrom (L : List ByteArray) (pre : ByteArray) : Nat → Nat → List Frame → Bool × Nat × List Frame
  | 0, k, fs => (true, k, fs)
  | f + 1, k, fs => if begK L k pre then (match frmS L k pre with
    | none => (false, k, fs)
    | some x => frsFrom L pre f (k + 1) (fs ++ [frmF x])) else (true, k, fs)
theorem begK_lt {L : List ByteArray} {k : Nat} {pre : ByteArray} (h : begK L k pre = true) : k < L.length := by
  obtain ⟨x, hx, _⟩ := begK_some h
  exact (List.getElem?_eq_some_iff.1 hx).1
theorem frs_step {L : List ByteArray} {pre : ByteArray} {k : Nat} {fs : List Frame} {x : Frm} (hb : begK L k pre = true) (hx : frmS L k pre = some x) :
    frsFrom L pre (L.length - k) k fs = frsFrom L pre (L.length - (k + 1)) (k + 1) (fs ++ [frmF x]) := by
  have := begK_lt hb
  obtain ⟨f, hf⟩ : ∃ f, L.length - k = f + 1 := ⟨L.length - k - 1, by omega⟩
  rw [hf, show L.length - (k + 1) = f by omega, frsFrom, if_pos hb, hx]
theorem frs_bad {L : List ByteArray} {pre : ByteArray} {k : Nat} {fs : List Frame} (hb : begK L k pre = true) (hx : frmS L k pre = none) :
    frsFrom L pre (L.length - k) k fs = (false, k, fs) := by
  have := begK_lt hb
  obtain ⟨f, hf⟩ : ∃ f, L.length - k = f + 1 := ⟨L.length - k - 1, by omega⟩
  rw [hf, frsFrom, if_pos hb, hx]
theorem frs_stop {L : List ByteArray} {pre : ByteArray} {k : Nat} {fs : List Frame} (hb : begK L k pre = false) :
    frsFrom L pre (L.length - k) k fs = (true, k, fs) := by
  cases hf : L.length - k with
  | zero => rfl
  | succ f => rw [frsFrom, if_neg (by rw [hb]; decide)]
/-- What a "..." line says. -/
def dotS (L : List ByteArray) (k : Nat) : ByteArray := ⟨(Lib.trimSuffix (lineR L k preDots).data.toList sfxMore.data.toList).toArray⟩
def dotK (L : List ByteArray) (k : Nat) : Bool := Lib.hasSuffix (lineR L k preDots).data.toList sfxMore.data.toList && numK 10 3 (dotS L k)
def dotN (L : List ByteArray) (k : Nat) : Int := numO 10 3 (dotS L k)
/-- Shared frames are taken, or counted. -/
def shrN (last : Option (List Frame)) (fs : List Frame) (first line : Nat) (more : Int) : Nat × List Frame :=
  if 0 ≤ more then (match last with
    | none => (line, fs)
    | some o => if more < 2 then (line, fs) else if (o.length : Int) < more then (line, fs) else
      (if (sharedN o (fs ++ o.drop (o.length - more.toNat)) : Int) = more then 0 else line, fs ++ o.drop (o.length - more.toNat)))
  else (match last with
    | none => (0, fs)
    | some o => (if 2 ≤ sharedN o fs then first + fs.length - sharedN o fs else 0, fs))
def lastF (out : List Flt) : Option (List Frame) := out.getLast?.map Flt.frs
def innShr (first k2 : Nat) (K T : ByteArray) (fs : List Frame) (more : Int) (out : List Flt) : RdR ⊕ (Nat × List Flt) :=
  if 0 < (shrN (lastF out) fs first k2 more).1 then .inl (none, (shrN (lastF out) fs first k2 more).1) else .inr (k2, out ++ [⟨K, T, (shrN (lastF out) fs first k2 more).2⟩])
def innTail (L : List ByteArray) (t : ByteArray) (first : Nat) (K T : ByteArray) (k1 : Nat) (fs : List Frame) (out : List Flt) : RdR ⊕ (Nat × List Flt) :=
  if begK L k1 preDots then (if dotK L k1 then innShr first (k1 + 1) K T fs (dotN L k1) out else .inl (none, k1 + 1))
  else if decide (k1 = L.length) && (hasP t preAt || hasP t preDots) then .inl (none, k1 + 1)
  else innShr first k1 K T fs (-1) out
def innStep (L : List ByteArray) (t : ByteArray) (k : Nat) (out : List Flt) (pre : ByteArray) : RdR ⊕ (Nat × List Flt) :=
  match fltS L k pre with
  | none => .inl (none, k + 1)
  | some (K, T) => if (frsFrom L preAt (L.length - (k + 1)) (k + 1) []).1 then innTail L t (k + 2) K T (frsFrom L preAt (L.length - (k + 1)) (k + 1) []).2.1 (frsFrom L preAt (L.length - (k + 1)) (k + 1) []).2.2 out
    else .inl (none, (frsFrom L preAt (L.length - (k + 1)) (k + 1) []).2.1 + 1)
/-- The form Inner. -/
def innR (L : List ByteArray) (t : ByteArray) : Nat → Nat → List Flt → ByteArray → RdR
  | 0, k, _, _ => (none, k + 1)
  | f + 1, k, out, pre => match innStep L t k out pre with
    | .inl r => r
    | .inr (k2, out2) => if k2 = L.length then (some out2, 0) else innR L t f k2 out2 preCaused
theorem fltS_lt {L : List ByteArray} {k : Nat} {pre : ByteArray} {x : ByteArray × ByteArray} (h : fltS L k pre = some x) : k < L.length := by
  unfold fltS at h
  cases hb : begK L k pre
  · rw [hb] at h; simp at h
  · exact begK_lt hb
theorem frs_le (L : List ByteArray) (pre : ByteArray) : ∀ (f k : Nat) (fs : List Frame), k ≤ L.length → k ≤ (frsFrom L pre f k fs).2.1 ∧ (frsFrom L pre f k fs).2.1 ≤ L.length ∧ (frsFrom L pre f k fs).2.2.length ≤ fs.length + ((frsFrom L pre f k fs).2.1 - k)
  | 0, k, fs, h => ⟨Nat.le_refl _, h, by simp [frsFrom]⟩
  | f + 1, k, fs, h => by
    rw [frsFrom]
    split
    · rename_i hb
      have := begK_lt hb
      split
      · exact ⟨Nat.le_refl _, h, by simp⟩
      · rename_i x hx
        have ih := frs_le L pre f (k + 1) (fs ++ [frmF x]) (by omega)
        simp at ih
        exact ⟨by omega, ih.2.1, by omega⟩
    · exact ⟨Nat.le_refl _, h, by simp⟩
theorem innTail_lt {L : List ByteArray} {t : ByteArray} {first : Nat} {K T : ByteArray} {k1 : Nat} {fs : List Frame} {out : List Flt} {k2 : Nat} {out2 : List Flt} (h : innTail L t first K T k1 fs out = .inr (k2, out2)) (hk : k1 ≤ L.length) : k1 ≤ k2 ∧ k2 ≤ L.length := by
  unfold innTail innShr at h
  split at h
  · rename_i hb
    have := begK_lt hb
    split at h
    · split at h
      · cases h
      · cases h; exact ⟨by omega, by omega⟩
    · cases h
  · split at h
    · cases h
    · split at h
      · cases h
      · cases h; exact ⟨Nat.le_refl _, hk⟩
theorem innStep_lt {L : List ByteArray} {t : ByteArray} {k : Nat} {out : List Flt} {pre : ByteArray} {k2 : Nat} {out2 : List Flt} (h : innStep L t k out pre = .inr (k2, out2)) : k < k2 ∧ k2 ≤ L.length := by
  unfold innStep at h
  split at h
  · cases h
  · rename_i K T hf
    have h1 := fltS_lt hf
    have h2 := frs_le L preAt (L.length - (k + 1)) (k + 1) [] (by omega)
    split at h
    · have := innTail_lt h h2.2.1
      omega
    · cases h
theorem inn_end {L : List ByteArray} {t : ByteArray} {k : Nat} {out : List Flt} {pre : ByteArray} {r : RdR} (h : innStep L t k out pre = .inl r) : innR L t (L.length - k + 1) k out pre = r := by
  rw [innR, h]
theorem inn_last {L : List ByteArray} {t : ByteArray} {k : Nat} {out out2 : List Flt} {pre : ByteArray} (h : innStep L t k out pre = .inr (L.length, out2)) : innR L t (L.length - k + 1) k out pre = (some out2, 0) := by
  rw [innR, h]; simp
theorem inn_step {L : List ByteArray} {t : ByteArray} {k k2 : Nat} {out out2 : List Flt} {pre : ByteArray} (h : innStep L t k out pre = .inr (k2, out2)) (hk : ¬ k2 = L.length) : innR L t (L.length - k + 1) k out pre = innR L t (L.length - k2 + 1) k2 out2 preCaused := by
  have h1 := innStep_lt h
  rw [innR, h]
  simp only [if_neg hk]
  have e : ∀ f g k out pre, L.length - k + 1 ≤ f → f ≤ g → innR L t f k out pre = innR L t g k out pre := by
    intro f
    induction f with
    | zero => intro g k out pre h; omega
    | succ f ih =>
      intro g k out pre hf hg
      obtain ⟨g, rfl⟩ : ∃ g', g = g' + 1 := ⟨g - 1, by omega⟩
      rw [innR, innR]
      split
      · rfl
      · rename_i k3 out3 hs
        have := innStep_lt hs
        split
        · rfl
        · exact ih g k3 out3 preCaused (by omega) (by omega)
  exact (e _ _ _ _ _ (Nat.le_refl _) (by omega)).symm
theorem sharedFrom_le (a b : List Frame) : ∀ f k, k ≤ b.length → sharedFrom a b f k ≤ b.length
  | 0, k, h => h
  | f + 1, k, h => by
    rw [sharedFrom]
    split
    · rename_i h2; exact sharedFrom_le a b f (k + 1) (by omega)
    · exact h
theorem sharedN_le (a b : List Frame) : sharedN a b ≤ b.length := sharedFrom_le a b _ 0 (Nat.zero_le _)
theorem numO_pos (b m : Nat) (s : ByteArray) : 0 ≤ numO b m s := by unfold numO; split <;> omega
end Go.Proofs.YtkjpojaanocfjaaGreatDoor
