/- What is read, in plain words: the whole of Read. -/
import Derived.Test.YtkjpojaanocfjaaGreatDoorStReA
import Derived.Lib.IndexMore
namespace Go.Proofs.YtkjpojaanocfjaaGreatDoor
open Go.RowKit
set_option linter.unusedVariables false
set_option linter.unusedSimpArgs false
theorem lastN : ∀ (k : Nat) (s : ByteArray), Lib.countB s ⟨#[10]⟩ = k → 0 < s.size → (emptyB ((Lib.splitB ⟨#[10]⟩ 0 k s).getLast?.getD ⟨#[]⟩) = true ↔ s.data.toList.getLast? = some 10) := by
  intro k
  induction k with
  | zero =>
    intro s hk hs
    rcases Lib.indexB_cases s ⟨#[10]⟩ with h | ⟨i, h, hr⟩
    · have hk : Lib.index s.data.toList [10] = -1 := h
      rw [Lib.index_one] at hk
      have hc : s.data.toList.contains 10 = false := by
        cases hc : s.data.toList.contains 10
        · rfl
        · have := indexByte_nonneg _ _ hc; omega
      rw [Lib.splitB_zero]
      constructor
      · intro he
        have := emptyB_iff he
        simp at this
        rw [this] at hs
        exact absurd hs (by decide)
      · intro he
        have := List.mem_of_getLast? he
        rw [← List.contains_iff_mem] at this
        rw [hc] at this
        cases this
    · have := Lib.countB_hit s ⟨#[10]⟩ i (by decide) h
      omega
  | succ k ih =>
    intro s hk hs
    rcases Lib.indexB_cases s ⟨#[10]⟩ with h | ⟨i, h, hr⟩
    · have := Lib.countB_miss _ _ h
      omega
    · have hc := Lib.countB_hit s ⟨#[10]⟩ i (by decide) h
      have h1 : (⟨#[10]⟩ : ByteArray).size = 1 := rfl
      rw [h1] at hc hr
      rw [Lib.splitB_hit _ _ _ _ _ h, h1]
      obtain ⟨r, hr'⟩ : ∃ r, s.extract (i + 1) s.size = r := ⟨_, rfl⟩
      rw [hr'] at hc ⊢
      have hck : Lib.countB r ⟨#[10]⟩ = k := by omega
      have hrl : r.data.toList = s.data.toList.drop (i + 1) := by rw [← hr']; exact Lib.extract_to_end s (i + 1)
      have hlen : (Lib.splitB ⟨#[10]⟩ 0 k r).length = k + 1 := by have := Lib.splitB_all ⟨#[10]⟩ (by decide) 0 k r hck; omega
      have hg : (s.extract 0 (i + 0) :: Lib.splitB ⟨#[10]⟩ 0 k r).getLast? = (Lib.splitB ⟨#[10]⟩ 0 k r).getLast? := by
        cases hl : Lib.splitB ⟨#[10]⟩ 0 k r with
        | nil => rw [hl] at hlen; simp at hlen
        | cons a l => rw [List.getLast?_cons_cons]
      rw [hg]
      have hss := len_size' s
      by_cases hz : r.size = 0
      · have hr0 : r = ⟨#[]⟩ := by
          apply ByteArray.ext
          apply Array.toList_inj.1
          have := len_size' r
          rw [hz] at this
          exact List.eq_nil_of_length_eq_zero this
        have hk0 : k = 0 := by rw [hr0] at hck; rw [← hck]; decide
        subst hk0
        rw [Lib.splitB_zero, hr0]
        have hsz : s.size = i + 1 := by
          have : (s.data.toList.drop (i + 1)).length = 0 := by rw [← hrl, hr0]; rfl
          rw [List.length_drop, hss] at this
          omega
        have hoc : s.data.toList[i]? = some 10 := by
          rcases Lib.index_spec s.data.toList [10] with ⟨h2, _⟩ | ⟨i2, h2, _, ho, _⟩
          · have h3 : Lib.index s.data.toList [10] = (i : Int) := h
            omega
          · have h3 : Lib.index s.data.toList [10] = (i : Int) := h
            obtain rfl : i2 = i := by omega
            unfold Lib.occAt at ho
            obtain ⟨t, ht⟩ := List.isPrefixOf_iff_prefix.1 ho
            have h4 : (s.data.toList.drop i2)[0]? = some 10 := by rw [← ht]; rfl
            rw [List.getElem?_drop] at h4
            exact h4
        constructor
        · intro _
          rw [List.getLast?_eq_getElem?, hss, hsz]
          exact hoc
        · intro _; exact emptyB_nil
      · rw [ih r hck (by omega), hrl, List.getLast?_drop, if_neg]
        rw [hss]
        have h2 : (s.data.toList.drop (i + 1)).length = r.size := by rw [← hrl]; exact len_size' r
        rw [List.length_drop, hss] at h2
        omega
theorem linT_last (s : ByteArray) (hs : 0 < s.size) : emptyB (linT s) = true ↔ s.data.toList.getLast? = some 10 := lastN _ s rfl hs
/-- A fault without its place in memory. -/
def Flt.toT (x : Flt) : FaultT := ⟨x.kind, x.text, none, 0, 0, x.frs⟩
def errF (l : List Flt) : Int := fltsErr (l.map Flt.toT)
theorem errF_map (l : List FaultT) : fltsErr l = errF (l.map FaultT.flt) := by
  unfold errF fltsErr
  have hlen : ((l.map FaultT.flt).map Flt.toT).length = l.length := by simp
  have hat : fltAt ((l.map FaultT.flt).map Flt.toT) = fltAt l := by
    funext k
    unfold fltAt
    rw [List.getElem?_map, List.getElem?_map]
    cases l[k]? with
    | none => rfl
    | some x => rfl
  rw [hlen, hat]
def rdR (s : ByteArray) (form : Int) : RdR := if form = 1 then innR (linL s) (linT s) ((linL s).length + 1) 0 [] ⟨#[]⟩ else if form = 2 then outR (linL s) ((linL s).length + 1) 0 [] else parR (linL s) ((linL s).length + 1) 0 []
/-- What is read, the line that is wrong. -/
def rdA (s : ByteArray) (form : Int) : RdR := if (rdR s form).2 = 0 ∧ emptyB (linT s) = false then ((rdR s form).1, (linL s).length + 1) else rdR s form
/-- What Read answers: faults, a line, an error. -/
def rdX (s : ByteArray) (form : Int) : List Flt × Nat × Int :=
  if 1000000 < s.size then ([], 0, 4) else if form < 1 ∨ 3 < form then ([], 0, 10) else if 0 < (rdA s form).2 then ([], (rdA s form).2, 8)
  else if errF ((rdA s form).1.getD []) = 0 then ((rdA s form).1.getD [], 0, 0) else ([], 0, errF ((rdA s form).1.getD []))
theorem begK_nil (k : Nat) (pre : ByteArray) : begK [] k pre = false := by unfold begK; simp
theorem fltS_nil (k : Nat) (pre : ByteArray) : fltS [] k pre = none := by unfold fltS; rw [begK_nil]; rfl
theorem rdR_nil {s : ByteArray} (form : Int) (h : linL s = []) : (rdR s form).2 = 1 := by
  unfold rdR
  rw [h]
  split
  · show (innR [] (linT s) 1 0 [] ⟨#[]⟩).2 = 1
    rw [innR, innStep, fltS_nil]
  · split
    · show (outR [] 1 0 []).2 = 1
      rw [outR, outStep, lineIs, begK_nil]; rfl
    · show (parR [] 1 0 []).2 = 1
      rw [parR, parStep, fltS_nil]
theorem rdR_pos {s : ByteArray} {form : Int} (h : (rdR s form).2 = 0) : 0 < s.size := by
  rcases Nat.eq_zero_or_pos s.size with h0 | h0
  · exfalso
    have hl : linL s = [] := by
      apply List.eq_nil_of_length_eq_zero
      rw [linL_len]
      have : s = ⟨#[]⟩ := by
        apply ByteArray.ext
        apply Array.toList_inj.1
        have := len_size' s
        rw [h0] at this
        exact List.eq_nil_of_length_eq_zero this
      rw [this]; decide
    have := rdR_nil form hl
    omega
  · exact h0
end Go.Proofs.YtkjpojaanocfjaaGreatDoor
