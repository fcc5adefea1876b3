/- The order of tallies: plain law. -/
import Derived.Test.YtkoijhecahebgaaDoorGtClo
namespace Go.Proofs.YtkoijhecahebgaaDoor
open Go.Sort
set_option linter.unusedVariables false
set_option linter.unusedSimpArgs false
theorem bl_irrefl : ∀ x : List UInt8, Op.bytesLess x x = false
  | [] => rfl
  | a :: x => by simp [Op.bytesLess, bl_irrefl x]
theorem bl_cons (a b : UInt8) (x y : List UInt8) : Op.bytesLess (a :: x) (b :: y) = true ↔ a.toNat < b.toNat ∨ (a = b ∧ Op.bytesLess x y = true) := by
  simp [Op.bytesLess, UInt8.lt_iff_toNat_lt]
theorem bl_tri : ∀ x y : List UInt8, ¬ Op.bytesLess x y = true → ¬ Op.bytesLess y x = true → x = y
  | [], [], _, _ => rfl
  | [], b :: y, h, _ => absurd rfl h
  | a :: x, [], _, h => absurd rfl h
  | a :: x, b :: y, h1, h2 => by
    rw [bl_cons] at h1 h2
    have e : a = b := UInt8.toNat_inj.1 (by
      have := fun h => h1 (.inl h)
      have := fun h => h2 (.inl h)
      omega)
    subst e
    rw [bl_tri x y (fun h => h1 (.inr ⟨rfl, h⟩)) (fun h => h2 (.inr ⟨rfl, h⟩))]
theorem bl_trans : ∀ x y z : List UInt8, Op.bytesLess x y = true → Op.bytesLess y z = true → Op.bytesLess x z = true
  | _, _, [], _, h => by cases ‹List UInt8› <;> simp [Op.bytesLess] at h
  | [], _, _ :: _, _, _ => rfl
  | a :: x, [], c :: z, h, _ => by simp [Op.bytesLess] at h
  | a :: x, b :: y, c :: z, h1, h2 => by
    rw [bl_cons] at h1 h2 ⊢
    rcases h1 with h1 | ⟨rfl, h1⟩
    · rcases h2 with h2 | ⟨rfl, h2⟩
      · exact .inl (by omega)
      · exact .inl h1
    · rcases h2 with h2 | ⟨rfl, h2⟩
      · exact .inl h2
      · exact .inr ⟨rfl, bl_trans x y z h1 h2⟩
/-- A comparison that is one: turned round it turns its sign; not more, twice, is not more. -/
structure CmpO {α : Type} (c : α → α → Int) : Prop where
  anti : ∀ x y, c x y < 0 ↔ 0 < c y x
  le : ∀ x y z, c x y ≤ 0 → c y z ≤ 0 → c x z ≤ 0
section
variable {α : Type} {c d : α → α → Int}
theorem CmpO.zero (h : CmpO c) {x y : α} : c x y = 0 ↔ c y x = 0 := by
  have h1 := h.anti x y
  have h2 := h.anti y x
  omega
theorem CmpO.lt (h : CmpO c) {x y z : α} (h1 : c x y < 0) (h2 : c y z ≤ 0) : c x z < 0 := by
  have a1 := h.anti x z
  have a2 := h.anti x y
  have a3 := h.anti z x
  rcases Int.lt_or_le (c x z) 0 with h3 | h3
  · exact h3
  · exfalso
    have h4 := h.le y z x h2 (by omega)
    omega
theorem CmpO.swo (h : CmpO c) : SWO fun x y => decide (c x y < 0) where
  irrefl x := by have := h.anti x x; exact decide_eq_false (by omega)
  trans x y z h1 h2 := by
    have h1 := of_decide_eq_true h1
    have h2 := of_decide_eq_true h2
    exact decide_eq_true (h.lt h1 (by omega))
  ntrans x y z h1 h2 := by
    have h1 := of_decide_eq_false h1
    have h2 := of_decide_eq_false h2
    refine decide_eq_false fun h3 => ?_
    have a1 := h.anti x y; have a2 := h.anti y z; have a3 := h.anti x z
    have a4 := h.anti y x; have a5 := h.anti z y
    have h4 := h.le z y x (by omega) (by omega)
    omega
theorem CmpO.lex (h : CmpO c) (g : CmpO d) : CmpO fun x y => if c x y ≠ 0 then c x y else d x y where
  anti x y := by
    have h1 := h.anti x y; have h2 := h.anti y x; have g1 := g.anti x y
    by_cases e : c x y = 0
    · rw [if_neg (by simp [e]), if_neg (by simp [h.zero.1 e])]; exact g1
    · have e2 : c y x ≠ 0 := fun e2 => e (h.zero.1 e2)
      rw [if_pos e, if_pos e2]; exact h1
  le x y z h1 h2 := by
    have hz : ∀ u v, (if c u v ≠ 0 then c u v else d u v) ≤ 0 → c u v ≤ 0 := fun u v hh => by
      by_cases e : c u v = 0
      · omega
      · rw [if_pos e] at hh; exact hh
    have k1 := hz _ _ h1
    have k2 := hz _ _ h2
    have k3 := h.le x y z k1 k2
    by_cases e : c x z = 0
    · have e1 : c x y = 0 := by
        rcases Int.lt_or_le (c x y) 0 with h3 | h3
        · have := h.lt h3 k2; omega
        · omega
      have e2 : c y z = 0 := by
        have a1 := h.anti x z; have a2 := h.anti z x
        have a3 := h.anti x y; have a4 := h.anti y x
        rcases Int.lt_or_le (c y z) 0 with h3 | h3
        · have := h.lt h3 (show c z x ≤ 0 by omega); omega
        · omega
      rw [if_neg (by simp [e1])] at h1
      rw [if_neg (by simp [e2])] at h2
      rw [if_neg (by simp [e])]
      exact g.le x y z h1 h2
    · rw [if_pos e]; exact k3
end
theorem cmpS_lt (a b : ByteArray) : cmpS a b < 0 ↔ Op.bytesLess a.toList b.toList = true := by
  unfold cmpS
  by_cases h : Op.bytesLess a.toList b.toList = true
  · rw [if_pos h]; simp [h]
  · rw [if_neg h]; simp only [h]; split <;> simp
theorem cmpS_gt (a b : ByteArray) : 0 < cmpS a b ↔ ¬ Op.bytesLess a.toList b.toList = true ∧ a.toList ≠ b.toList := by
  unfold cmpS
  by_cases h : Op.bytesLess a.toList b.toList = true
  · rw [if_pos h]; simp [h]
  · rw [if_neg h]
    by_cases e : a.toList = b.toList
    · rw [if_pos (by simpa using e)]; simp [e]
    · rw [if_neg (by simpa using e)]; simp [h, e]
theorem cmpS_zero {a b : ByteArray} (h : cmpS a b = 0) : a = b := by
  have h1 := cmpS_lt a b
  have h2 := cmpS_gt a b
  have h3 : a.toList = b.toList := Decidable.byContradiction fun h3 => by
    have := h2.2 ⟨fun h4 => by have := h1.2 h4; omega, h3⟩
    omega
  rw [ByteArray.toList_eq, ByteArray.toList_eq] at h3
  exact ByteArray.ext (Array.toList_inj.1 h3)
theorem cmpS_ord : CmpO cmpS where
  anti x y := by
    rw [cmpS_lt, cmpS_gt]
    constructor
    · intro h
      refine ⟨fun h2 => ?_, fun e => ?_⟩
      · have := bl_trans _ _ _ h h2
        rw [bl_irrefl] at this; cases this
      · rw [e, bl_irrefl] at h; cases h
    · rintro ⟨h1, h2⟩
      exact Decidable.byContradiction fun h3 => h2 (bl_tri _ _ h1 h3)
  le x y z h1 h2 := by
    refine Int.not_lt.1 fun h3 => ?_
    have a1 := mt (cmpS_gt x y).2 (by omega)
    have a2 := mt (cmpS_gt y z).2 (by omega)
    obtain ⟨b1, b2⟩ := (cmpS_gt x z).1 h3
    by_cases e1 : x.toList = y.toList
    · rw [← e1] at a2
      exact a2 ⟨b1, b2⟩
    · have c1 : Op.bytesLess x.toList y.toList = true := Decidable.byContradiction fun h => a1 ⟨h, e1⟩
      by_cases e2 : y.toList = z.toList
      · rw [e2] at c1; exact b1 c1
      · have c2 : Op.bytesLess y.toList z.toList = true := Decidable.byContradiction fun h => a2 ⟨h, e2⟩
        exact b1 (bl_trans _ _ _ c1 c2)
theorem cmpI_lt (x y : Int) : Lib.compareInt x y < 0 ↔ x < y := by
  unfold Lib.compareInt
  split
  · omega
  · split <;> omega
theorem cmpI_gt (x y : Int) : 0 < Lib.compareInt x y ↔ y < x := by
  unfold Lib.compareInt
  split
  · omega
  · split <;> omega
theorem cmpI_ord : CmpO Lib.compareInt where
  anti x y := by rw [cmpI_lt, cmpI_gt]
  le x y z h1 h2 := by
    have a1 := cmpI_gt x y; have a2 := cmpI_gt y z; have a3 := cmpI_gt x z
    omega
theorem CmpO.on {α β : Type} {c : β → β → Int} (h : CmpO c) (f : α → β) : CmpO fun x y => c (f x) (f y) := ⟨fun x y => h.anti _ _, fun x y z => h.le _ _ _⟩
theorem cmpT_ord : CmpO cmpT := (cmpS_ord.on Tl.key).lex ((cmpI_ord.on Tl.why).lex (cmpS_ord.on Tl.name))
/-- What a tally is told by. -/
def Tl.tag (x : Tl) : ByteArray × Int × ByteArray := (x.key, x.why, x.name)
theorem cmpT_zero {x y : Tl} (h : cmpT x y = 0) : x.tag = y.tag := by
  unfold cmpT orI at h
  have h1 : cmpS x.key y.key = 0 := Decidable.byContradiction fun e => by rw [if_pos e] at h; exact e h
  rw [if_neg (by simp [h1])] at h
  have h2 : Lib.compareInt x.why y.why = 0 := Decidable.byContradiction fun e => by rw [if_pos e] at h; exact e h
  rw [if_neg (by simp [h2])] at h
  have h3 : x.why = y.why := by
    have a1 := cmpI_lt x.why y.why; have a2 := cmpI_gt x.why y.why
    omega
  unfold Tl.tag
  rw [cmpS_zero h1, h3, cmpS_zero h]
/-- Rows that are sorted, and hold the same, are one, where no two elements are told alike. -/
theorem sorted_one {α β : Type} {c : α → α → Int} (h : CmpO c) (tag : α → β) (hz : ∀ x y, c x y = 0 → tag x = tag y) : ∀ (l m : List α), l.Perm m → (l.map tag).Nodup → l.Pairwise (fun x y => ¬ c y x < 0) → m.Pairwise (fun x y => ¬ c y x < 0) → l = m
  | [], m, hp, _, _, _ => (List.nil_perm.1 hp).symm
  | a :: l, [], hp, _, _, _ => absurd hp.length_eq (by simp)
  | a :: l, b :: m, hp, hn, hl, hm => by
    rw [List.pairwise_cons] at hl hm
    rw [List.map_cons, List.nodup_cons] at hn
    have hb : b ∈ a :: l := hp.symm.subset List.mem_cons_self
    have ha : a ∈ b :: m := hp.subset List.mem_cons_self
    have e : a = b := by
      rcases List.mem_cons.1 hb with e | hb
      · exact e.symm
      · rcases List.mem_cons.1 ha with e | ha
        · exact e
        · have h1 := hl.1 b hb
          have h2 := hm.1 a ha
          have h3 := h.anti a b
          have h3b := h.anti b a
          have h4 := hz a b (by omega)
          exact absurd (h4 ▸ List.mem_map.2 ⟨b, hb, rfl⟩) hn.1
    subst e
    rw [sorted_one h tag hz l m (List.Perm.cons_inv hp) hn.2 hl.2 hm.2]
end Go.Proofs.YtkoijhecahebgaaDoor
