/- Plain law of Mangle: how long it is. -/
import Derived.Test.YtocpmbpckbjepaaDoorNmGC
namespace Go.Proofs.YtocpmbpckbjepaaDoor
open Go.RowKit
set_option linter.unusedVariables false
set_option linter.unusedSimpArgs false
theorem lenL_len {s : ByteArray} (h : s.size ≤ 60) : (lenL s).length ≤ 2 := digs_len 10 (by decide) 2 _ (by omega) (by decide)
theorem flat_len {α : Type} {g : α → List UInt8} {c : α → Nat} : ∀ {l : List α}, (∀ a ∈ l, (g a).length ≤ c a) → (l.flatMap g).length ≤ sumN c l
  | [], _ => by simp [sumN]
  | a :: l, h => by
    have ih := flat_len (l := l) (fun b hb => h b (by simp [hb]))
    have := h a (by simp)
    rw [List.flatMap_cons, List.length_append, sumN_cons]
    omega
theorem kyTys_len {f : Nat} {l : List Ty} (h : ∀ t ∈ l, (kyT f t).length + 2 ≤ 1400 * cnt f t) : (l.flatMap (kyT f)).length ≤ 1400 * cntTys f l := by
  rw [cntTys, ← sumN_mul]
  exact flat_len fun t ht => by have := h t ht; omega
theorem kyPart_len {f : Nat} {p : Part} (h1 : p.1.size ≤ 60) (h : ∀ t ∈ p.2, (kyT f t).length + 2 ≤ 1400 * cnt f t) : (kyPart (kyT f) p).length ≤ 64 + 1400 * cntTys f p.2 := by
  have h2 := lenL_len h1
  have h3 := kyTys_len h
  have h4 : p.1.data.toList.length ≤ 60 := by rw [Array.length_toList]; exact h1
  unfold kyPart
  rw [List.length_append, List.length_append]
  split
  · simp only [List.length_cons, List.length_append, List.length_singleton, List.length_nil]; omega
  · simp only [List.length_cons, List.length_append, List.length_singleton, List.length_nil]; omega
theorem kyParts_len {f : Nat} {l : List Part} (h1 : ∀ p ∈ l, p.1.size ≤ 60 ∧ ∀ t ∈ p.2, (kyT f t).length + 2 ≤ 1400 * cnt f t) : (l.flatMap (kyPart (kyT f))).length ≤ 64 * l.length + 1400 * cntParts f l := by
  refine Nat.le_trans (flat_len (c := fun p => 64 + 1400 * cntTys f p.2) fun p hp => kyPart_len (h1 p hp).1 (h1 p hp).2) ?_
  rw [sumN_add, sumN_mul]
  exact Nat.le_refl _
theorem ky_len : ∀ (f : Nat) (t : Ty), Good f t → (kyT f t).length + 2 ≤ 1400 * cnt f t
  | 0, _, h => h.elim
  | f + 1, t, h => by
    rw [cnt_eq]
    have ih := fun x (hx : Good f x) => ky_len f x hx
    unfold kyT
    split
    · rename_i h1
      have h2 := kyParts_len (l := t.name) (fun p hp => ⟨(h.2.2.2.2.1 p hp).1, fun x hx => ih x ((h.2.2.2.2.1 p hp).2.2 x hx)⟩)
      have h3 := (h.2.1 h1).2.2
      simp only [List.length_cons, List.length_append, List.length_singleton, List.length_nil]
      omega
    · have h2 := kyTys_len (l := t.of) (fun x hx => ih x (h.2.2.2.2.2 x hx))
      split
      · simp only [List.length_cons, List.length_append, List.length_singleton, List.length_nil]; omega
      · have h3 : (headT (kyT f) t.of).length ≤ 1400 * cntTys f t.of := by
          cases e : t.of with
          | nil => simp [headT]
          | cons x l =>
            have := ih x (h.2.2.2.2.2 x (by rw [e]; simp))
            have := cnt_mem (f := f) (l := x :: l) (t := x) (by simp)
            show (kyT f x).length ≤ _
            omega
        simp only [List.length_cons, List.length_append, List.length_singleton, List.length_nil]
        omega
section
variable {α : Type} {g : α → List Ty → List UInt8 × List Ty} {b c : α → Nat} {S : α → Ty → Prop} {G : α → Prop}
theorem fold_len (hg : ∀ a d, G a → DOk d → Grew d (g a d).2 (c a) (S a)) (hl : ∀ a d, G a → DOk d → d.length + c a ≤ 999 → (g a d).1.length ≤ b a) : ∀ (l : List α) (d : List Ty), (∀ a ∈ l, G a) → DOk d → d.length + sumN c l ≤ 999 → (mgFold g l d).1.length ≤ sumN b l
  | [], d, _, _, _ => by simp [mgFold, sumN]
  | a :: l, d, hG, hd, hn => by
    rw [sumN_cons] at hn
    have h1 := hg a d (hG a (by simp)) hd
    have h2 := hl a d (hG a (by simp)) hd (by omega)
    have h3 := fold_len hg hl l (g a d).2 (fun x hx => hG x (by simp [hx])) h1.ok (by have := h1.len; omega)
    rw [mgFold, sumN_cons]
    simp only [List.length_append]
    omega
end
theorem mgTys_len {f : Nat} (hf : f ≤ 12) (H : ∀ t d, Good f t ∧ Txt f t → DOk d → d.length + cnt f t ≤ 999 → (mgT f t d).1.length + 2 ≤ 1400 * cnt f t) {l : List Ty} {d : List Ty} (hl : ∀ t ∈ l, Good f t ∧ Txt f t) (hd : DOk d) (hn : d.length + cntTys f l ≤ 999) : (mgFold (mgT f) l d).1.length ≤ 1400 * cntTys f l := by
  rw [cntTys, ← sumN_mul]
  exact fold_len (c := cnt f) (S := fun y x => Sub y x) (G := fun t => Good f t ∧ Txt f t) (fun t d ht hd => mgT_grew f t d hf ht hd) (fun t d ht hd hn => by have := H t d ht hd hn; omega) l d hl hd hn
theorem mgParts_grew {f : Nat} (hf : f ≤ 12) (p : Part) (d : List Ty) (hp : textE p.1 = 0 ∧ p.1.size ≤ 60 ∧ ∀ x ∈ p.2, Good f x ∧ Txt f x) (hd : DOk d) : Grew d (mgPart (mgT f) p d).2 (cntTys f p.2) (fun x => ∃ y ∈ p.2, Sub y x) :=
  fold_grew (c := cnt f) (S := fun y x => Sub y x) (fun t d ht hd => mgT_grew f t d hf ht hd) p.2 d hp.2.2 hd
theorem mgParts_len {f : Nat} (hf : f ≤ 12) (H : ∀ t d, Good f t ∧ Txt f t → DOk d → d.length + cnt f t ≤ 999 → (mgT f t d).1.length + 2 ≤ 1400 * cnt f t) {l : List Part} {d : List Ty} (hl : ∀ p ∈ l, textE p.1 = 0 ∧ p.1.size ≤ 60 ∧ ∀ x ∈ p.2, Good f x ∧ Txt f x) (hd : DOk d) (hn : d.length + cntParts f l ≤ 999) : (mgFold (mgPart (mgT f)) l d).1.length ≤ 64 * l.length + 1400 * cntParts f l := by
  refine Nat.le_trans (fold_len (b := fun p => 64 + 1400 * cntTys f p.2) (c := fun p => cntTys f p.2) (S := fun p x => ∃ y ∈ p.2, Sub y x) (G := fun p => textE p.1 = 0 ∧ p.1.size ≤ 60 ∧ ∀ x ∈ p.2, Good f x ∧ Txt f x) (fun p d hp hd => mgParts_grew hf p d hp hd) (fun p d hp hd hn => ?_) l d hl hd (show d.length + sumN (fun p => cntTys f p.2) l ≤ 999 from hn)) ?_
  · have h2 := lenL_len hp.2.1
    have h3 := mgTys_len hf H hp.2.2 hd hn
    have h4 : p.1.data.toList.length ≤ 60 := by rw [Array.length_toList]; exact hp.2.1
    unfold mgPart
    simp only [List.length_append]
    split
    · simp only [List.length_cons, List.length_append, List.length_singleton, List.length_nil]; omega
    · simp only [List.length_cons, List.length_append, List.length_singleton, List.length_nil]; omega
  · rw [sumN_add, sumN_mul]
    exact Nat.le_refl _
theorem mgT_len : ∀ (f : Nat) (t : Ty) (d : List Ty), f ≤ 12 → Good f t ∧ Txt f t → DOk d → d.length + cnt f t ≤ 999 → (mgT f t d).1.length + 2 ≤ 1400 * cnt f t
  | 0, _, _, _, h, _, _ => h.1.elim
  | f + 1, t, d, hf, ⟨hG, hT⟩, hd, hn => by
    rw [cnt_eq] at hn ⊢
    have ih := fun x d (hx : Good f x ∧ Txt f x) hd hn => mgT_len f x d (by omega) hx hd hn
    unfold mgT
    cases hp : plc d t with
    | some k =>
      have hk := (List.getElem?_eq_some_iff.1 (plc_some hp).1).1
      have : (toldL (k : Int)).length ≤ 3 := digs_len 10 (by decide) 3 _ (by omega) (by decide)
      simp only [List.length_cons, List.length_append, List.length_singleton, List.length_nil]
      omega
    | none =>
      show (mgBody (mgT f) t d).1.length + 2 ≤ _
      unfold mgBody
      split
      · rename_i h1
        have h2 := mgParts_len (by omega) ih (l := t.name) (d := d) (fun p hp => ⟨(hT.1 p hp).1, (hG.2.2.2.2.1 p hp).1, fun x hx => ⟨(hG.2.2.2.2.1 p hp).2.2 x hx, (hT.1 p hp).2 x hx⟩⟩) hd (by omega)
        have h3 := (hG.2.1 h1).2.2
        unfold mgName
        simp only [List.length_cons, List.length_append, List.length_singleton, List.length_nil]
        omega
      · have h2 := mgTys_len (by omega) ih (l := t.of) (d := d) (fun x hx => ⟨hG.2.2.2.2.2 x hx, hT.2 x hx⟩) hd (by omega)
        split
        · simp only [List.length_cons, List.length_append, List.length_singleton, List.length_nil]; omega
        · simp only [List.length_cons, List.length_append, List.length_singleton, List.length_nil]; omega
end Go.Proofs.YtocpmbpckbjepaaDoor
