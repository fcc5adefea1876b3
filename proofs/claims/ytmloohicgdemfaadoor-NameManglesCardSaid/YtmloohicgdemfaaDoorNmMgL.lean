/- Plain law of Mangle: what a type would be if all of it were written out tells the type. -/
import Derived.Test.YtmloohicgdemfaaDoorNmPrL
import Derived.Test.YtmloohicgdemfaaDoorDigs
import Derived.Test.YtmloohicgdemfaaDoorNmSame
namespace Go.Proofs.YtmloohicgdemfaaDoor
open Go.RowKit
set_option linter.unusedVariables false
set_option linter.unusedSimpArgs false
/-- The length of a text, in digits. -/
def lenL (s : ByteArray) : List UInt8 := toldL (s.size : Int)
def kyPart (g : Ty → List UInt8) (p : Part) : List UInt8 := lenL p.1 ++ (p.1.data.toList ++ (if p.2.length = 0 then [] else 73 :: (p.2.flatMap g ++ [69])))
/-- A type, written out. -/
def kyT : Nat → Ty → List UInt8
  | 0, _ => []
  | f + 1, t => if t.kind = 1 then 78 :: (t.name.flatMap (kyPart (kyT f)) ++ [69]) else if t.kind = 4 then 70 :: (t.of.flatMap (kyT f) ++ [69]) else (if t.kind = 2 then 82 else 76) :: headT (kyT f) t.of
/-- All texts of a type are right. -/
def Txt : Nat → Ty → Prop
  | 0, _ => False
  | f + 1, t => (∀ p ∈ t.name, textE p.1 = 0 ∧ ∀ x ∈ p.2, Txt f x) ∧ ∀ x ∈ t.of, Txt f x
theorem foldE_all {α : Type} {f : Nat → α → Int × Nat} {G : α → Prop} (hf : ∀ st a st', f st a = (0, st') → G a) : ∀ (l : List α) (st st' : Nat), foldE f l st = (0, st') → ∀ a ∈ l, G a
  | [], _, _, _, a, ha => by cases ha
  | x :: l, st, st', h, a, ha => by
    unfold foldE at h
    split at h
    · rename_i hne
      rw [h] at hne; exact absurd rfl hne
    · rename_i h0
      have h0 : (f st x).1 = 0 := by simpa using h0
      rcases List.mem_cons.1 ha with rfl | ha
      · exact hf st a (f st a).2 (Prod.ext h0 rfl)
      · exact foldE_all hf l _ _ h a ha
theorem chkName_txt {f : Nat} (ih : ∀ st t st', chkTy f st t = (0, st') → Txt f t) {st st' : Nat} {l : List Part} (h : chkName (chkTy f) l st = (0, st')) : ∀ p ∈ l, textE p.1 = 0 ∧ ∀ x ∈ p.2, Txt f x := by
  unfold chkName at h
  split at h; · cases h
  split at h; · cases h
  refine foldE_all (G := fun p : Part => textE p.1 = 0 ∧ ∀ x ∈ p.2, Txt f x) (fun st p st' hp => ?_) l _ _ h
  unfold chkPart at hp
  split at hp
  · rename_i hne
    rw [Prod.mk.injEq] at hp; exact absurd hp.1 hne
  · rename_i h0
    have h0 : textE p.1 = 0 := by simpa using h0
    unfold chkList at hp
    split at hp; · cases hp
    exact ⟨h0, foldE_all (G := Txt f) ih _ _ _ hp⟩
theorem chkTy_txt : ∀ (f st : Nat) (t : Ty) (st' : Nat), chkTy f st t = (0, st') → Txt f t
  | 0, _, _, _, h => by cases h
  | f + 1, st, t, st', h => by
    unfold chkTy at h
    split at h; · cases h
    split at h; · cases h
    rename_i hk
    split at h; · cases h
    rename_i hb
    simp only [badForm, Bool.or_eq_true, decide_eq_true_eq, not_or, not_and] at hb
    obtain ⟨⟨⟨b1, b2⟩, b3⟩, b4⟩ := hb
    split at h
    · rename_i h1
      have ho : t.of = [] := List.length_eq_zero_iff.1 (by have := b1 h1; omega)
      exact ⟨chkName_txt (chkTy_txt f) h, by rw [ho]; simp⟩
    · rename_i h1
      have hn : t.name = [] := List.length_eq_zero_iff.1 (by have := b2 h1; omega)
      unfold chkList at h
      split at h; · cases h
      exact ⟨by rw [hn]; simp, foldE_all (G := Txt f) (chkTy_txt f) _ _ _ h⟩
theorem sym_txt {s : Sym} (h : (symE s).1 = 0) : (∀ p ∈ s.name, textE p.1 = 0 ∧ ∀ x ∈ p.2, Txt 12 x) ∧ ∀ x ∈ s.takes, Txt 12 x := by
  have h0 := h
  unfold symE at h0
  by_cases h1 : (chkName (chkTy 12) s.name 0).1 = 0
  · rw [if_neg (by simpa using h1)] at h0
    refine ⟨chkName_txt (chkTy_txt 12) (st := 0) (st' := (chkName (chkTy 12) s.name 0).2) (Prod.ext h1 rfl), ?_⟩
    unfold chkList at h0
    split at h0; · cases h0
    exact foldE_all (G := Txt 12) (chkTy_txt 12) _ _ _ (Prod.ext h0 rfl)
  · rw [if_pos h1] at h0; exact absurd h0 h1
/- Digits. -/
theorem hexc_dig {u : Nat} (h : u < 10) : digB (hexc u) = true := by
  have : ∀ u, u < 10 → digB (hexc u) = true := by decide
  exact this u h
theorem hexc_inj {u v : Nat} (hu : u < 10) (hv : v < 10) (h : hexc u = hexc v) : u = v := by
  have : ∀ u, u < 10 → ∀ v, v < 10 → hexc u = hexc v → u = v := by decide
  exact this u hu v hv h
theorem digs_ne (u : Nat) : digs 10 u ≠ [] := by
  by_cases h : u < 10
  · rw [digs_small h]; simp
  · rw [digs_big (by omega) (by decide)]; simp
theorem digs_dig (u : Nat) : ∀ c ∈ digs 10 u, digB c = true := by
  induction u using Nat.strongRecOn with
  | ind u ih =>
    intro c hc
    by_cases h : u < 10
    · rw [digs_small h] at hc
      obtain rfl := List.mem_singleton.1 hc
      exact hexc_dig h
    · rw [digs_big (by omega) (by decide)] at hc
      rcases List.mem_append.1 hc with hc | hc
      · exact ih (u / 10) (by omega) c hc
      · obtain rfl := List.mem_singleton.1 hc
        exact hexc_dig (by omega)
theorem digs_inj (u : Nat) : ∀ v, digs 10 u = digs 10 v → u = v := by
  induction u using Nat.strongRecOn with
  | ind u ih =>
    intro v h
    by_cases hu : u < 10 <;> by_cases hv : v < 10
    · rw [digs_small hu, digs_small hv] at h
      exact hexc_inj hu hv (by simpa using h)
    · rw [digs_small hu, digs_big (b := 10) (u := v) (by omega) (by decide)] at h
      have h1 := congrArg List.length h
      have h2 := List.length_pos_iff.2 (digs_ne (v / 10))
      simp at h1; simp [h1] at h2
    · rw [digs_small hv, digs_big (b := 10) (u := u) (by omega) (by decide)] at h
      have h1 := congrArg List.length h
      have h2 := List.length_pos_iff.2 (digs_ne (u / 10))
      simp at h1; simp [h1] at h2
    · rw [digs_big (b := 10) (u := u) (by omega) (by decide), digs_big (b := 10) (u := v) (by omega) (by decide)] at h
      obtain ⟨h1, h2⟩ := List.append_inj' h rfl
      have := ih (u / 10) (by omega) (v / 10) h1
      have := hexc_inj (by omega) (by omega) (show hexc (u % 10) = hexc (v % 10) by simpa using h2)
      omega
theorem lenL_dig (s : ByteArray) : ∀ c ∈ lenL s, digB c = true := digs_dig _
theorem lenL_inj {s s' : ByteArray} (h : lenL s = lenL s') : s.size = s'.size := by
  have := digs_inj _ _ h
  omega
theorem lenL_cons (s : ByteArray) : ∃ c r, lenL s = c :: r ∧ digB c = true := by
  cases h : lenL s with
  | nil => exact absurd h (digs_ne _)
  | cons c r => exact ⟨c, r, rfl, lenL_dig s c (by rw [h]; simp)⟩
theorem dig_split {r1 r2 : List UInt8} (hr1 : ∀ c, r1.head? = some c → digB c = false) (hr2 : ∀ c, r2.head? = some c → digB c = false) : ∀ (d1 d2 : List UInt8), (∀ c ∈ d1, digB c = true) → (∀ c ∈ d2, digB c = true) → d1 ++ r1 = d2 ++ r2 → d1 = d2 ∧ r1 = r2
  | [], [], _, _, h => ⟨rfl, h⟩
  | [], c :: d2, _, h2, h => by
    have h3 := hr1 c (by rw [show r1 = c :: (d2 ++ r2) from h]; rfl)
    rw [h2 c (by simp)] at h3; cases h3
  | c :: d1, [], h1, _, h => by
    have h3 := hr2 c (by rw [show r2 = c :: (d1 ++ r1) from h.symm]; rfl)
    rw [h1 c (by simp)] at h3; cases h3
  | c :: d1, c' :: d2, h1, h2, h => by
    rw [List.cons_append, List.cons_append, List.cons.injEq] at h
    obtain ⟨rfl, h⟩ := h
    obtain ⟨rfl, e⟩ := dig_split hr1 hr2 d1 d2 (fun c hc => h1 c (by simp [hc])) (fun c hc => h2 c (by simp [hc])) h
    exact ⟨rfl, e⟩
theorem text_head {s : ByteArray} (h : textE s = 0) : ∃ c r, s.data.toList = c :: r ∧ digB c = false := by
  unfold textE at h
  split at h; · cases h
  rename_i h0
  split at h; · cases h
  split at h; · cases h
  rename_i h1
  cases hs : s.data.toList with
  | nil => exact absurd (show s.data.size = 0 by rw [← Array.length_toList, hs]; rfl) h0
  | cons c r => exact ⟨c, r, rfl, by rw [hs] at h1; simpa [headDig] using h1⟩
/- Lists behind each other, with an end. -/
section
variable {g : Ty → List UInt8} {P : Ty → Prop} (hg : ∀ x y r r', P x → P y → g x ++ r = g y ++ r' → x = y ∧ r = r') (hh : ∀ x, P x → ∃ c s, g x = c :: s ∧ c ≠ 69)
include hg hh
theorem tys_inj : ∀ (l l' : List Ty) (r r' : List UInt8), (∀ x ∈ l, P x) → (∀ x ∈ l', P x) → l.flatMap g ++ 69 :: r = l'.flatMap g ++ 69 :: r' → l = l' ∧ r = r'
  | [], [], r, r', _, _, h => by simpa using h
  | [], x :: l', r, r', _, h2, h => by
    obtain ⟨c, s, e, hne⟩ := hh x (h2 x (by simp))
    rw [List.flatMap_nil, List.flatMap_cons, e] at h
    simp at h
    exact absurd h.1.symm hne
  | x :: l, [], r, r', h1, _, h => by
    obtain ⟨c, s, e, hne⟩ := hh x (h1 x (by simp))
    rw [List.flatMap_nil, List.flatMap_cons, e] at h
    simp at h
    exact absurd h.1 hne
  | x :: l, y :: l', r, r', h1, h2, h => by
    rw [List.flatMap_cons, List.flatMap_cons, List.append_assoc, List.append_assoc] at h
    obtain ⟨rfl, e⟩ := hg x y _ _ (h1 x (by simp)) (h2 y (by simp)) h
    obtain ⟨rfl, e2⟩ := tys_inj l l' r r' (fun x hx => h1 x (by simp [hx])) (fun x hx => h2 x (by simp [hx])) e
    exact ⟨rfl, e2⟩
theorem part_inj {p p' : Part} {r r' : List UInt8} (h1 : textE p.1 = 0) (h1' : textE p'.1 = 0) (h2 : ∀ x ∈ p.2, P x) (h2' : ∀ x ∈ p'.2, P x) (hr : r.head? ≠ some 73) (hr' : r'.head? ≠ some 73) (h : kyPart g p ++ r = kyPart g p' ++ r') : p = p' ∧ r = r' := by
  obtain ⟨s, l⟩ := p
  obtain ⟨s', l'⟩ := p'
  simp only [kyPart] at h1 h1' h2 h2' h
  obtain ⟨c, t, e, hc⟩ := text_head h1
  obtain ⟨c', t', e', hc'⟩ := text_head h1'
  rw [List.append_assoc, List.append_assoc, List.append_assoc, List.append_assoc] at h
  obtain ⟨hl, h⟩ := dig_split (fun x hx => by rw [e] at hx; simp at hx; rw [← hx]; exact hc) (fun x hx => by rw [e'] at hx; simp at hx; rw [← hx]; exact hc') _ _ (lenL_dig s) (lenL_dig s') h
  have hsz := lenL_inj hl
  obtain ⟨hs, hq⟩ := List.append_inj h (by rw [Array.length_toList, Array.length_toList]; exact hsz)
  have hs : s = s' := ByteArray.ext (Array.toList_inj.1 hs)
  subst hs
  by_cases hz : l.length = 0 <;> by_cases hz' : l'.length = 0
  · rw [if_pos hz, if_pos hz'] at hq
    obtain rfl := List.length_eq_zero_iff.1 hz
    obtain rfl := List.length_eq_zero_iff.1 hz'
    exact ⟨rfl, by simpa using hq⟩
  · rw [if_pos hz, if_neg hz'] at hq
    exact absurd (by rw [show r = 73 :: ((l'.flatMap g ++ [69]) ++ r') from by simpa using hq]; rfl) hr
  · rw [if_neg hz, if_pos hz'] at hq
    exact absurd (by rw [show r' = 73 :: ((l.flatMap g ++ [69]) ++ r) from by simpa using hq.symm]; rfl) hr'
  · rw [if_neg hz, if_neg hz'] at hq
    rw [List.cons_append, List.cons_append, List.cons.injEq, List.append_assoc, List.append_assoc] at hq
    obtain ⟨rfl, e2⟩ := tys_inj hg hh l l' r r' h2 h2' hq.2
    exact ⟨rfl, e2⟩
omit hg hh in
theorem parts_head (g : Ty → List UInt8) (l : List Part) (r : List UInt8) : (l.flatMap (kyPart g) ++ 69 :: r).head? ≠ some 73 := by
  cases l with
  | nil => simp
  | cons p l =>
    obtain ⟨c, t, e, hc⟩ := lenL_cons p.1
    rw [List.flatMap_cons, kyPart, e]
    simp
    rintro rfl
    exact absurd hc (by decide)
theorem parts_inj : ∀ (l l' : List Part) (r r' : List UInt8), (∀ p ∈ l, textE p.1 = 0 ∧ ∀ x ∈ p.2, P x) → (∀ p ∈ l', textE p.1 = 0 ∧ ∀ x ∈ p.2, P x) → l.flatMap (kyPart g) ++ 69 :: r = l'.flatMap (kyPart g) ++ 69 :: r' → l = l' ∧ r = r'
  | [], [], r, r', _, _, h => by simpa using h
  | [], p :: l', r, r', _, h2, h => by
    obtain ⟨c, s, e, hc⟩ := lenL_cons p.1
    rw [List.flatMap_nil, List.flatMap_cons, kyPart, e] at h
    simp at h
    rw [← h.1] at hc; exact absurd hc (by decide)
  | p :: l, [], r, r', h1, _, h => by
    obtain ⟨c, s, e, hc⟩ := lenL_cons p.1
    rw [List.flatMap_nil, List.flatMap_cons, kyPart, e] at h
    simp at h
    rw [h.1] at hc; exact absurd hc (by decide)
  | p :: l, p' :: l', r, r', h1, h2, h => by
    rw [List.flatMap_cons, List.flatMap_cons, List.append_assoc, List.append_assoc] at h
    obtain ⟨rfl, e⟩ := part_inj hg hh (h1 p (by simp)).1 (h2 p' (by simp)).1 (h1 p (by simp)).2 (h2 p' (by simp)).2 (parts_head g l r) (parts_head g l' r') h
    obtain ⟨rfl, e2⟩ := parts_inj l l' r r' (fun x hx => h1 x (by simp [hx])) (fun x hx => h2 x (by simp [hx])) e
    exact ⟨rfl, e2⟩
end
theorem ky_head {f : Nat} {t : Ty} (h : Good f t) : ∃ c s, kyT f t = c :: s ∧ c ≠ 69 := by
  cases f with
  | zero => exact h.elim
  | succ f =>
    unfold kyT
    split
    · exact ⟨_, _, rfl, by decide⟩
    · split
      · exact ⟨_, _, rfl, by decide⟩
      · split <;> exact ⟨_, _, rfl, by decide⟩
theorem one_of {l : List Ty} (h : l.length = 1) : ∃ x, l = [x] := by
  match l, h with
  | [x], _ => exact ⟨x, rfl⟩
theorem ky_inj : ∀ (f : Nat) (t t' : Ty) (r r' : List UInt8), Good f t ∧ Txt f t → Good f t' ∧ Txt f t' → kyT f t ++ r = kyT f t' ++ r' → t = t' ∧ r = r'
  | 0, _, _, _, _, h, _, _ => h.1.elim
  | f + 1, t, t', r, r', ⟨hG, hT⟩, ⟨hG', hT'⟩, h => by
    have ih := fun x y r r' (hx : Good f x ∧ Txt f x) (hy : Good f y ∧ Txt f y) => ky_inj f x y r r' hx hy
    have hh := fun x (hx : Good f x ∧ Txt f x) => ky_head hx.1
    obtain ⟨⟨k1, k2⟩, g1, g2, g3, g4, g5⟩ := hG
    obtain ⟨⟨k1', k2'⟩, g1', g2', g3', g4', g5'⟩ := hG'
    obtain ⟨t1, t2⟩ := hT
    obtain ⟨t1', t2'⟩ := hT'
    have hb : ∀ u : Ty, 1 ≤ u.kind → u.kind ≤ 4 → ∃ s, kyT (f + 1) u = (if u.kind = 1 then 78 else if u.kind = 4 then 70 else if u.kind = 2 then 82 else 76) :: s := fun u _ _ => by
      unfold kyT
      split
      · exact ⟨_, rfl⟩
      · split
        · exact ⟨_, rfl⟩
        · split <;> exact ⟨_, rfl⟩
    obtain ⟨s, es⟩ := hb t k1 k2
    obtain ⟨s', es'⟩ := hb t' k1' k2'
    have hkk : t.kind = t'.kind := by
      rw [es, es', List.cons_append, List.cons_append, List.cons.injEq] at h
      have h0 := h.1
      have c1 : t.kind = 1 ∨ t.kind = 2 ∨ t.kind = 3 ∨ t.kind = 4 := by omega
      have c2 : t'.kind = 1 ∨ t'.kind = 2 ∨ t'.kind = 3 ∨ t'.kind = 4 := by omega
      rcases c1 with e | e | e | e <;> rcases c2 with e' | e' | e' | e' <;> rw [e, e'] at h0 ⊢ <;> first | rfl | exact absurd h0 (by decide)
    clear es es' hb
    by_cases h1 : t.kind = 1
    · have h1' : t'.kind = 1 := hkk ▸ h1
      rw [kyT, kyT, if_pos h1, if_pos h1', List.cons_append, List.cons_append, List.cons.injEq, List.append_assoc, List.append_assoc] at h
      obtain ⟨e, e2⟩ := parts_inj (P := fun x => Good f x ∧ Txt f x) ih hh t.name t'.name r r' (fun p hp => ⟨(t1 p hp).1, fun x hx => ⟨(g4 p hp).2.2 x hx, (t1 p hp).2 x hx⟩⟩) (fun p hp => ⟨(t1' p hp).1, fun x hx => ⟨(g4' p hp).2.2 x hx, (t1' p hp).2 x hx⟩⟩) h.2
      exact ⟨(Ty.eq_iff _ _).2 ⟨hkk, e, by rw [(g1 h1).1, (g1' h1').1]⟩, e2⟩
    · have h1' : ¬ t'.kind = 1 := hkk ▸ h1
      have hnn : t.name = t'.name := by rw [(g2 h1).1, (g2' h1').1]
      by_cases h4 : t.kind = 4
      · have h4' : t'.kind = 4 := hkk ▸ h4
        rw [kyT, kyT, if_neg h1, if_neg h1', if_pos h4, if_pos h4', List.cons_append, List.cons_append, List.cons.injEq, List.append_assoc, List.append_assoc] at h
        obtain ⟨e, e2⟩ := tys_inj (P := fun x => Good f x ∧ Txt f x) ih hh t.of t'.of r r' (fun x hx => ⟨g5 x hx, t2 x hx⟩) (fun x hx => ⟨g5' x hx, t2' x hx⟩) h.2
        exact ⟨(Ty.eq_iff _ _).2 ⟨hkk, hnn, e⟩, e2⟩
      · have h4' : ¬ t'.kind = 4 := hkk ▸ h4
        obtain ⟨x, ex⟩ := one_of (g3 (by omega))
        obtain ⟨x', ex'⟩ := one_of (g3' (by omega))
        rw [kyT, kyT, if_neg h1, if_neg h1', if_neg h4, if_neg h4', List.cons_append, List.cons_append, List.cons.injEq, ex, ex'] at h
        obtain ⟨e, e2⟩ := ih x x' r r' ⟨g5 x (by rw [ex]; simp), t2 x (by rw [ex]; simp)⟩ ⟨g5' x' (by rw [ex']; simp), t2' x' (by rw [ex']; simp)⟩ h.2
        exact ⟨(Ty.eq_iff _ _).2 ⟨hkk, hnn, by rw [ex, ex', e]⟩, e2⟩
/- More depth turns nothing. -/
theorem good_up : ∀ {f : Nat} {t : Ty}, Good f t → Good (f + 1) t
  | 0, _, h => h.elim
  | f + 1, t, h => ⟨h.1, h.2.1, h.2.2.1, h.2.2.2.1, fun p hp => ⟨(h.2.2.2.2.1 p hp).1, (h.2.2.2.2.1 p hp).2.1, fun x hx => good_up ((h.2.2.2.2.1 p hp).2.2 x hx)⟩, fun x hx => good_up (h.2.2.2.2.2 x hx)⟩
theorem txt_up : ∀ {f : Nat} {t : Ty}, Txt f t → Txt (f + 1) t
  | 0, _, h => h.elim
  | f + 1, t, h => ⟨fun p hp => ⟨(h.1 p hp).1, fun x hx => txt_up ((h.1 p hp).2 x hx)⟩, fun x hx => txt_up (h.2 x hx)⟩
theorem flatMap_eq {α β : Type} {g g' : α → List β} {l : List α} (h : ∀ a ∈ l, g a = g' a) : l.flatMap g = l.flatMap g' := by
  rw [List.flatMap, List.flatMap, List.map_congr_left h]
theorem ky_up : ∀ {f : Nat} {t : Ty}, Good f t → kyT (f + 1) t = kyT f t
  | 0, _, h => h.elim
  | f + 1, t, h => by
    have hp : t.name.flatMap (kyPart (kyT (f + 1))) = t.name.flatMap (kyPart (kyT f)) := flatMap_eq fun p hp => by
      rw [kyPart, kyPart, flatMap_eq fun x hx => ky_up ((h.2.2.2.2.1 p hp).2.2 x hx)]
    have ho : t.of.flatMap (kyT (f + 1)) = t.of.flatMap (kyT f) := flatMap_eq fun x hx => ky_up (h.2.2.2.2.2 x hx)
    have hd : headT (kyT (f + 1)) t.of = headT (kyT f) t.of := by
      cases e : t.of with
      | nil => rfl
      | cons x l => exact ky_up (h.2.2.2.2.2 x (by rw [e]; simp))
    rw [kyT, hp, ho, hd]
    rfl
theorem up_to {Q : Nat → Prop} (hs : ∀ f, Q f → Q (f + 1)) {f k : Nat} (h : Q f) (hk : f ≤ k) : Q k := by
  induction k with
  | zero => obtain rfl : f = 0 := by omega
            exact h
  | succ k ih =>
    by_cases e : f = k + 1
    · subst e; exact h
    · exact hs k (ih (by omega))
theorem ky_12 {f : Nat} {t : Ty} (h : Good f t) (hf : f ≤ 12) : kyT 12 t = kyT f t ∧ Good 12 t :=
  up_to (Q := fun k => kyT k t = kyT f t ∧ Good k t) (fun k hk => ⟨(ky_up hk.2).trans hk.1, good_up hk.2⟩) ⟨rfl, h⟩ hf
theorem txt_12 {f : Nat} {t : Ty} (h : Txt f t) (hf : f ≤ 12) : Txt 12 t := up_to (Q := fun k => Txt k t) (fun k hk => txt_up hk) h hf
/-- A type that may be written out. -/
def Fine (t : Ty) : Prop := Good 12 t ∧ Txt 12 t
def ky (t : Ty) : List UInt8 := kyT 12 t
theorem ky_same {t t' : Ty} (h : Fine t) (h' : Fine t') (e : ky t = ky t') : t = t' :=
  (ky_inj 12 t t' [] [] h h' (by rw [List.append_nil, List.append_nil]; exact e)).1
end Go.Proofs.YtmloohicgdemfaaDoor
