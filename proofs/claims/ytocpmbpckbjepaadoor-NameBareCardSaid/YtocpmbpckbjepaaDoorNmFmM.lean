/- A list of lists of numbers of one's own: rows behind a row. No program. -/
import Derived.Test.YtocpmbpckbjepaaDoorNmGA
import Derived.Maps.AppendAt
namespace Go.Proofs.YtocpmbpckbjepaaDoor
open Go.RowKit
set_option linter.unusedVariables false
set_option linter.unusedSimpArgs false
def nC (x : List Nat) : List Value := x.map fun (n : Nat) => Value.int .i64 (n : Int)
theorem nC_snoc (x : List Nat) (i : Nat) : nC (x ++ [i]) = nC x ++ [.int .i64 (i : Int)] := by simp [nC]
/-- The rows O lie in w behind v, each in a block of its own. -/
structure Fm (T I : TypeId) (w : World) (B : Nat) (v : Value) (vs : List Value) (O : List (List Nat)) : Prop where
  out : w.ownsRow B T 1 v O.length vs
  row : ∀ (k : Nat) (x : List Nat) (u : Value), O[k]? = some x → vs[k]? = some u → w.ownsRow B I 1 u x.length (nC x)
  apart : ∀ (k k' : Nat) (u u' : Value), vs[k]? = some u → vs[k']? = some u' → k ≠ k' → u.ownBlock = none ∨ u.ownBlock ≠ u'.ownBlock
section
variable {T I : TypeId} {w w' : World} {B : Nat} {v : Value} {vs : List Value} {O : List (List Nat)}
theorem own_grown {sz n : Nat} {e : TypeId} {r : Option Nat} {xs : List Value} (h : w.ownsRow B e sz v n xs) (hg : w.grownBy w' r) (hne : v.ownBlock = none ∨ v.ownBlock ≠ r) : w'.ownsRow B e sz v n xs := by
  refine ⟨h.1, ?_⟩
  rcases h.2 with h0 | ⟨g, cap, cur, h1, h2, h3, h4⟩
  · exact .inl h0
  · refine .inr ⟨g, cap, cur, h1, h2, (hg.block g (lt_of_block h3) (fun e => ?_)).trans h3, h4⟩
    rw [h1] at hne
    rcases hne with hne | hne
    · simp [Value.ownBlock] at hne
    · exact hne e
theorem Fm.len (h : Fm T I w B v vs O) : vs.length = O.length := by rw [h.out.1, Nat.mul_one]
theorem Fm.nil (w : World) (B : Nat) : Fm T I w B (.slice none 0 0) [] [] := ⟨World.ownsRow_nil _ _ _ _, fun k x u h => by simp at h, fun k k' u u' h => by simp at h⟩
/-- Other things happen. -/
theorem Fm.grown {r : Option Nat} (h : Fm T I w B v vs O) (hg : w.grownBy w' r) (h1 : v.ownBlock = none ∨ v.ownBlock ≠ r) (h2 : ∀ u ∈ vs, u.ownBlock = none ∨ u.ownBlock ≠ r) : Fm T I w' B v vs O :=
  ⟨own_grown h.out hg h1, fun k x u hx hu => own_grown (h.row k x u hx hu) hg (h2 u (List.mem_of_getElem? hu)), h.apart⟩
theorem Fm.below (h : Fm T I w B v vs O) (hb : Below w.heap.size w w') : Fm T I w' B v vs O :=
  ⟨own_below h.out hb, fun k x u hx hu => own_below (h.row k x u hx hu) hb, h.apart⟩
theorem Fm.row' (h : Fm T I w B v vs O) {u : Value} (hu : u ∈ vs) : ∃ (k : Nat) (x : List Nat), O[k]? = some x ∧ vs[k]? = some u ∧ w.ownsRow B I 1 u x.length (nC x) := by
  obtain ⟨k, hk, rfl⟩ := List.mem_iff_getElem.1 hu
  have hk2 : k < O.length := by rw [← h.len]; exact hk
  exact ⟨k, O[k], List.getElem?_eq_getElem hk2, List.getElem?_eq_getElem hk, h.row k _ _ (List.getElem?_eq_getElem hk2) (List.getElem?_eq_getElem hk)⟩
/-- A block of another type, or before one's own, is none of them. -/
theorem own_ne {sz n : Nat} {e e' : TypeId} {sz' n' : Nat} {xs xs' : List Value} {v' : Value} {B' : Nat} (h : w.ownsRow B e sz v n xs) (h' : w.ownsRow B' e' sz' v' n' xs') (hne : e ≠ e') : v.ownBlock = none ∨ v.ownBlock ≠ v'.ownBlock := by
  rcases h'.2 with ⟨rfl, _⟩ | ⟨g, cap, cur, rfl, _, hh, _⟩
  · rcases h.2 with ⟨rfl, _⟩ | ⟨g, cap, cur, rfl, _⟩
    · exact .inl rfl
    · exact .inr (by simp [Value.ownBlock])
  · exact .inr (own_other' h hh hne)
theorem own_low {sz n : Nat} {e : TypeId} {xs : List Value} (h : w.ownsRow B e sz v n xs) {b : Nat} (hb : b < B) : v.ownBlock = none ∨ v.ownBlock ≠ some b := .inr fun e => by have := (h.lt b e).1; omega
theorem Fm.step {b : Nat} (h : Fm T I w B v vs O) (hg : w.grownBy w' (some b)) (hb : b < B) : Fm T I w' B v vs O :=
  h.grown hg (own_low h.out hb) fun u hu => by obtain ⟨k, x, _, _, hr⟩ := h.row' hu; exact own_low hr hb
/-- A row more, that is empty. -/
theorem Fm.push {v' : Value} (h : Fm T I w B v vs O) (hTI : I ≠ T) (hg : w.grownBy w' v.ownBlock) (ho : w'.ownsRow B T 1 v' (O.length + 1) (vs ++ [.slice none 0 0])) : Fm T I w' B v' (vs ++ [.slice none 0 0]) (O ++ [[]]) := by
  have hl := h.len
  have h2 : ∀ k u, (vs ++ [.slice none 0 0])[k]? = some u → vs[k]? = some u ∨ (k = vs.length ∧ u = .slice none 0 0) := fun k u hu => by
    by_cases hk : k < vs.length
    · rw [List.getElem?_append_left hk] at hu; exact .inl hu
    · by_cases hk2 : k = vs.length
      · subst hk2; simp at hu; exact .inr ⟨rfl, hu.symm⟩
      · rw [List.getElem?_eq_none (by simp; omega)] at hu; cases hu
  refine ⟨by rw [List.length_append]; exact ho, fun k x u hx hu => ?_, fun k k' u u' hu hu' hne => ?_⟩
  · rcases h2 k u hu with hu | ⟨rfl, rfl⟩
    · have hk := (List.getElem?_eq_some_iff.1 hu).1
      rw [List.getElem?_append_left (by omega)] at hx
      have hr := h.row k x u hx hu
      exact own_grown hr hg (own_ne hr h.out hTI)
    · rw [hl] at hx
      simp at hx
      subst hx
      exact World.ownsRow_nil _ _ _ _
  · rcases h2 k u hu with hu | ⟨rfl, rfl⟩
    · rcases h2 k' u' hu' with hu' | ⟨rfl, rfl⟩
      · exact h.apart k k' u u' hu hu' hne
      · cases e : u.ownBlock with
        | none => exact .inl rfl
        | some b => exact .inr (by simp [Value.ownBlock])
    · exact .inl rfl
/-- Row k gets a number more. -/
theorem Fm.add {g cap k i : Nat} {u u' : Value} {x : List Nat} (h : Fm T I w B (.slice (some ⟨g, 0, none⟩) O.length cap) vs O) (hTI : T ≠ I) (hx : O[k]? = some x) (hu : vs[k]? = some u)
    (hg : w.grownBy w' u.ownBlock) (ho : w'.ownsRow B I 1 u' (x.length + 1) (nC x ++ [.int .i64 (i : Int)])) (hw : u'.ownBlock = u.ownBlock ∨ u'.ownBlock = some w.heap.size) :
    w'.ownsRow B T 1 (.slice (some ⟨g, 0, none⟩) O.length cap) O.length vs ∧ Fm T I (w'.setCell ⟨g, k, none⟩ u') B (.slice (some ⟨g, 0, none⟩) O.length cap) (vs.set k u') (O.modify k (· ++ [i])) := by
  have hr := h.row k x u hx hu
  have hout := own_grown h.out hg (own_ne h.out hr hTI)
  have hkl := (List.getElem?_eq_some_iff.1 hu).1
  have hcur : ∃ cur, w'.heap[g]? = some (.cells cur T (0, 0)) := by
    rcases hout.2 with ⟨h1, _⟩ | ⟨g', cap', cur, h1, h2, h3, h4⟩
    · cases h1
    · simp only [Value.slice.injEq, Option.some.injEq, Addr.mk.injEq, true_and, and_true] at h1
      obtain ⟨rfl, rfl⟩ := h1
      exact ⟨cur, h3⟩
  obtain ⟨cur, hcur⟩ := hcur
  have hset : ∀ {n : Nat} {z : Value} {xs : List Value}, w'.ownsRow B I 1 z n xs → (w'.setCell ⟨g, k, none⟩ u').ownsRow B I 1 z n xs := fun hz => ownsRow_setCell_other hz (a := ⟨g, k, none⟩) (own_other' hz hcur (Ne.symm hTI)) u'
  refine ⟨hout, ?_, fun k' x' z hx' hz => ?_, fun k1 k2 z z' hz hz' hne => ?_⟩
  · rw [List.length_modify]; exact own_set hout k u'
  · rw [List.getElem?_modify] at hx'
    rw [List.getElem?_set] at hz
    by_cases hk : k = k'
    · subst hk
      rw [if_pos rfl, if_pos hkl] at hz
      obtain rfl := Option.some.inj hz
      rw [hx] at hx'
      simp at hx'
      rw [← hx', List.length_append, nC_snoc]
      exact hset ho
    · rw [if_neg hk] at hz
      simp only [if_neg hk] at hx'
      simp at hx'
      have hr' := h.row k' x' z hx' hz
      have hap := h.apart k' k z u hz hu (Ne.symm hk)
      exact hset (own_grown hr' hg hap)
  · rw [List.getElem?_set] at hz hz'
    have hnew : ∀ k1 z, k ≠ k1 → vs[k1]? = some z → z.ownBlock = none ∨ z.ownBlock ≠ u'.ownBlock := fun k1 z hk1 hz => by
      have hap := h.apart k1 k z u hz hu (Ne.symm hk1)
      rcases hw with e | e
      · rw [e]; exact hap
      · rw [e]
        have hk1l : k1 < O.length := by have := (List.getElem?_eq_some_iff.1 hz).1; have := h.len; omega
        have hr1 := h.row k1 _ z (List.getElem?_eq_getElem hk1l) hz
        exact .inr fun e2 => by have := (hr1.lt _ e2).2; omega
    by_cases h1 : k = k1
    · subst h1
      rw [if_pos rfl, if_pos hkl] at hz
      obtain rfl := Option.some.inj hz
      rw [if_neg hne] at hz'
      rcases hnew k2 z' hne hz' with e | e
      · cases e2 : u'.ownBlock with
        | none => exact .inl rfl
        | some b => exact .inr (by rw [e]; simp)
      · exact .inr (Ne.symm e)
    · rw [if_neg h1] at hz
      by_cases h2 : k = k2
      · subst h2
        rw [if_pos rfl, if_pos hkl] at hz'
        obtain rfl := Option.some.inj hz'
        exact hnew k1 z h1 hz
      · rw [if_neg h2] at hz'
        exact h.apart k1 k2 z z' hz hz' hne
end
end Go.Proofs.YtocpmbpckbjepaaDoor
