/- Plain law of Mangle: what is written, and the list of the types that were written out. -/
import Derived.Test.YtmloohicgdemfaaDoorNmMgL
namespace Go.Proofs.YtmloohicgdemfaaDoor
open Go.RowKit
set_option linter.unusedVariables false
set_option linter.unusedSimpArgs false
/-- The place of a type in a list. -/
noncomputable def plc (d : List Ty) (t : Ty) : Option Nat := d.findIdx? fun x => same x t
theorem plc_some {d : List Ty} {t : Ty} {k : Nat} (h : plc d t = some k) : d[k]? = some t ∧ ∀ i, i < k → ∀ x, d[i]? = some x → same x t = false := by
  unfold plc at h
  obtain ⟨hk, h1, h2⟩ := List.findIdx?_eq_some_iff_getElem.1 h
  refine ⟨by rw [List.getElem?_eq_getElem hk, same_iff h1], fun i hi x hx => ?_⟩
  obtain ⟨hi2, rfl⟩ := List.getElem?_eq_some_iff.1 hx
  simpa using h2 i hi
theorem plc_none {d : List Ty} {t : Ty} (h : plc d t = none) : t ∉ d := fun hm => by
  unfold plc at h
  rw [List.findIdx?_eq_none_iff] at h
  have := h t hm
  rw [same_yes rfl] at this; cases this
theorem plc_of {d : List Ty} {t : Ty} {k : Nat} (hn : d.Nodup) (h : d[k]? = some t) : plc d t = some k := by
  cases hp : plc d t with
  | none => exact absurd (List.mem_of_getElem? h) (plc_none hp)
  | some j =>
    have h1 := (plc_some hp).1
    obtain ⟨hk, e⟩ := List.getElem?_eq_some_iff.1 h
    obtain ⟨hj, e'⟩ := List.getElem?_eq_some_iff.1 h1
    rw [List.nodup_iff_pairwise_ne, List.pairwise_iff_getElem] at hn
    rcases Nat.lt_trichotomy j k with hlt | rfl | hlt
    · exact absurd (e'.trans e.symm) (hn j k hj hk hlt)
    · rfl
    · exact absurd (e.trans e'.symm) (hn k j hk hj hlt)
/-- Each of a list, behind each other. -/
def mgFold {α : Type} (g : α → List Ty → List UInt8 × List Ty) : List α → List Ty → List UInt8 × List Ty
  | [], d => ([], d)
  | a :: l, d => ((g a d).1 ++ (mgFold g l (g a d).2).1, (mgFold g l (g a d).2).2)
theorem mgFold_snoc {α : Type} (g : α → List Ty → List UInt8 × List Ty) (a : α) : ∀ (l : List α) (d : List Ty), mgFold g (l ++ [a]) d = ((mgFold g l d).1 ++ (g a (mgFold g l d).2).1, (g a (mgFold g l d).2).2)
  | [], d => by simp [mgFold]
  | x :: l, d => by rw [List.cons_append, mgFold, mgFold_snoc g a l, mgFold]; simp
def mgPart (g : Ty → List Ty → List UInt8 × List Ty) (p : Part) (d : List Ty) : List UInt8 × List Ty :=
  (lenL p.1 ++ p.1.data.toList ++ (if p.2.length = 0 then [] else 73 :: ((mgFold g p.2 d).1 ++ [69])), (mgFold g p.2 d).2)
def mgName (g : Ty → List Ty → List UInt8 × List Ty) (l : List Part) (d : List Ty) : List UInt8 × List Ty :=
  (78 :: ((mgFold (mgPart g) l d).1 ++ [69]), (mgFold (mgPart g) l d).2)
/-- What a type is made of, written. -/
def mgBody (g : Ty → List Ty → List UInt8 × List Ty) (t : Ty) (d : List Ty) : List UInt8 × List Ty :=
  if t.kind = 1 then mgName g t.name d else if t.kind = 4 then (70 :: ((mgFold g t.of d).1 ++ [69]), (mgFold g t.of d).2)
  else ((if t.kind = 2 then 82 else 76) :: (mgFold g t.of d).1, (mgFold g t.of d).2)
noncomputable def mgT : Nat → Ty → List Ty → List UInt8 × List Ty
  | 0, _, d => ([], d)
  | f + 1, t, d => match plc d t with
    | some k => (83 :: (toldL (k : Int) ++ [95]), d)
    | none => ((mgBody (mgT f) t d).1, (mgBody (mgT f) t d).2 ++ [t])
noncomputable def mgSym (s : Sym) : List UInt8 :=
  81 :: ((mgName (mgT 12) s.name []).1 ++ ((mgFold (mgT 12) s.takes (mgName (mgT 12) s.name []).2).1 ++ [90]))
/-- A list of types that were written out. -/
structure DOk (d : List Ty) : Prop where
  nodup : d.Nodup
  fine : ∀ x ∈ d, Fine x
/-- What writing does to the list. -/
structure Grew (d d' : List Ty) (n : Nat) (S : Ty → Prop) : Prop where
  ok : DOk d'
  old : ∀ x ∈ d', x ∈ d ∨ S x
  pre : d <+: d'
  len : d'.length ≤ d.length + n
theorem Grew.refl {d : List Ty} (h : DOk d) (S : Ty → Prop) : Grew d d 0 S := ⟨h, fun x hx => .inl hx, List.prefix_refl d, by omega⟩
theorem Grew.trans {d d1 d2 : List Ty} {n m : Nat} {S S' Q : Ty → Prop} (h : Grew d d1 n S) (h' : Grew d1 d2 m S') (hS : ∀ x, S x → Q x) (hS' : ∀ x, S' x → Q x) : Grew d d2 (n + m) Q :=
  ⟨h'.ok, fun x hx => by
    rcases h'.old x hx with h1 | h1
    · rcases h.old x h1 with h2 | h2
      · exact .inl h2
      · exact .inr (hS x h2)
    · exact .inr (hS' x h1), h.pre.trans h'.pre, by have := h.len; have := h'.len; omega⟩
theorem Grew.more {d d' : List Ty} {n m : Nat} {S Q : Ty → Prop} (h : Grew d d' n S) (hn : n ≤ m) (hS : ∀ x, S x → Q x) : Grew d d' m Q :=
  ⟨h.ok, fun x hx => (h.old x hx).imp id (hS x), h.pre, by have := h.len; omega⟩
theorem fold_grew {α : Type} {g : α → List Ty → List UInt8 × List Ty} {c : α → Nat} {S : α → Ty → Prop} {G : α → Prop} (hg : ∀ a d, G a → DOk d → Grew d (g a d).2 (c a) (S a)) : ∀ (l : List α) (d : List Ty), (∀ a ∈ l, G a) → DOk d → Grew d (mgFold g l d).2 (sumN c l) (fun x => ∃ a ∈ l, S a x)
  | [], d, _, hd => Grew.refl hd _
  | a :: l, d, hG, hd => by
    have h1 := hg a d (hG a (by simp)) hd
    have h2 := fold_grew hg l (g a d).2 (fun b hb => hG b (by simp [hb])) h1.ok
    rw [sumN_cons]
    exact h1.trans h2 (fun x hx => ⟨a, by simp, hx⟩) (fun x ⟨b, hb, hx⟩ => ⟨b, by simp [hb], hx⟩)
theorem size_name {t : Ty} {p : Part} (hp : p ∈ t.name) {x : Ty} (hx : x ∈ p.2) : SizeOf.sizeOf x < SizeOf.sizeOf t := by
  cases t with
  | mk k n o =>
    have h1 := List.sizeOf_lt_of_mem hp
    have h2 := List.sizeOf_lt_of_mem hx
    have h3 : SizeOf.sizeOf p = 1 + SizeOf.sizeOf p.1 + SizeOf.sizeOf p.2 := by cases p; rfl
    have h4 : SizeOf.sizeOf (Ty.mk k n o) = 1 + SizeOf.sizeOf k + SizeOf.sizeOf n + SizeOf.sizeOf o := Ty.mk.sizeOf_spec k n o
    show SizeOf.sizeOf x < SizeOf.sizeOf (Ty.mk k n o)
    have h5 : SizeOf.sizeOf p < SizeOf.sizeOf n := h1
    omega
theorem size_of {t : Ty} {x : Ty} (hx : x ∈ t.of) : SizeOf.sizeOf x < SizeOf.sizeOf t := by
  cases t with
  | mk k n o =>
    have h2 : SizeOf.sizeOf x < SizeOf.sizeOf o := List.sizeOf_lt_of_mem hx
    have h4 : SizeOf.sizeOf (Ty.mk k n o) = 1 + SizeOf.sizeOf k + SizeOf.sizeOf n + SizeOf.sizeOf o := Ty.mk.sizeOf_spec k n o
    show SizeOf.sizeOf x < SizeOf.sizeOf (Ty.mk k n o)
    omega
theorem cnt_eq (f : Nat) (t : Ty) : cnt (f + 1) t = 1 + cntParts f t.name + cntTys f t.of := rfl
def Sub (t x : Ty) : Prop := SizeOf.sizeOf x ≤ SizeOf.sizeOf t
theorem mgT_grew : ∀ (f : Nat) (t : Ty) (d : List Ty), f ≤ 12 → Good f t ∧ Txt f t → DOk d → Grew d (mgT f t d).2 (cnt f t) (Sub t)
  | 0, _, _, _, h, _ => h.1.elim
  | f + 1, t, d, hf, ⟨hG, hT⟩, hd => by
    have ih := fun x d (hx : Good f x ∧ Txt f x) hd => mgT_grew f x d (by omega) hx hd
    unfold mgT
    cases hp : plc d t with
    | some k => exact (Grew.refl hd _).more (by omega) (fun _ h => h)
    | none =>
      have hb : Grew d (mgBody (mgT f) t d).2 (cntParts f t.name + cntTys f t.of) (fun x => SizeOf.sizeOf x < SizeOf.sizeOf t) := by
        unfold mgBody
        split
        · have h1 := fold_grew (g := mgPart (mgT f)) (c := fun p => cntTys f p.2) (S := fun p x => ∃ y ∈ p.2, Sub y x) (G := fun p => ∀ x ∈ p.2, Good f x ∧ Txt f x) (fun p d hp hd => fold_grew (c := cnt f) (S := fun y x => Sub y x) ih p.2 d hp hd) t.name d (fun p hp x hx => ⟨(hG.2.2.2.2.1 p hp).2.2 x hx, (hT.1 p hp).2 x hx⟩) hd
          refine h1.more (by unfold cntParts; omega) ?_
          rintro x ⟨p, hp, y, hy, hs⟩
          exact Nat.lt_of_le_of_lt hs (size_name hp hy)
        · have h1 := fold_grew (c := cnt f) (S := fun y x => Sub y x) ih t.of d (fun x hx => ⟨hG.2.2.2.2.2 x hx, hT.2 x hx⟩) hd
          have h2 : Grew d (mgFold (mgT f) t.of d).2 (cntParts f t.name + cntTys f t.of) (fun x => SizeOf.sizeOf x < SizeOf.sizeOf t) := by
            refine h1.more (by unfold cntTys; omega) ?_
            rintro x ⟨y, hy, hs⟩
            exact Nat.lt_of_le_of_lt hs (size_of hy)
          split
          · exact h2
          · exact h2
      have hnt : t ∉ (mgBody (mgT f) t d).2 := fun hm => by
        rcases hb.old t hm with h1 | h1
        · exact plc_none hp h1
        · exact absurd h1 (Nat.lt_irrefl _)
      refine ⟨⟨?_, fun x hx => ?_⟩, fun x hx => ?_, hb.pre.trans (List.prefix_append _ _), ?_⟩
      · rw [List.nodup_append]
        refine ⟨hb.ok.nodup, by simp, fun a ha b hb' => ?_⟩
        obtain rfl := List.mem_singleton.1 hb'
        exact fun e => hnt (e ▸ ha)
      · rcases List.mem_append.1 hx with hx | hx
        · exact hb.ok.fine x hx
        · obtain rfl := List.mem_singleton.1 hx
          exact ⟨(ky_12 hG hf).2, txt_12 hT hf⟩
      · rcases List.mem_append.1 hx with hx | hx
        · exact (hb.old x hx).imp id (fun h => Nat.le_of_lt h)
        · obtain rfl := List.mem_singleton.1 hx
          exact .inr (Nat.le_refl _)
      · rw [List.length_append, List.length_singleton, cnt_eq]
        have := hb.len
        omega
/-- A type that is not in the list is not in it when what it is made of is written. -/
theorem body_new {f : Nat} {t : Ty} {d : List Ty} (hf : f + 1 ≤ 12) (hG : Good (f + 1) t ∧ Txt (f + 1) t) (hd : DOk d) (hp : plc d t = none) : t ∉ (mgBody (mgT f) t d).2 ∧ DOk (mgBody (mgT f) t d).2 ∧ (mgBody (mgT f) t d).2.length + 1 ≤ d.length + cnt (f + 1) t := by
  have h := mgT_grew (f + 1) t d hf hG hd
  have e : (mgT (f + 1) t d).2 = (mgBody (mgT f) t d).2 ++ [t] := by rw [mgT, hp]
  rw [e] at h
  have h1 := h.ok.nodup
  rw [List.nodup_append] at h1
  have h2 := h.len
  rw [List.length_append, List.length_singleton] at h2
  exact ⟨fun hm => h1.2.2 t hm t (by simp) rfl, ⟨h1.1, fun x hx => h.ok.fine x (List.mem_append_left _ hx)⟩, h2⟩
/-- The keys of what was written out. -/
noncomputable def kys (d : List Ty) : List (List UInt8) := d.map ky
theorem kys_nodup {d : List Ty} (h : DOk d) : (kys d).Nodup := by
  unfold kys
  rw [List.nodup_iff_pairwise_ne, List.pairwise_map]
  have hn := h.nodup
  rw [List.nodup_iff_pairwise_ne] at hn
  exact List.Pairwise.imp_of_mem (fun {a b} ha hb hne e => hne (ky_same (h.fine a ha) (h.fine b hb) e)) hn
theorem kys_mem {d : List Ty} (h : DOk d) {t : Ty} (ht : Fine t) : ky t ∈ kys d ↔ t ∈ d := by
  unfold kys
  rw [List.mem_map]
  constructor
  · rintro ⟨x, hx, e⟩
    exact ky_same (h.fine x hx) ht e ▸ hx
  · exact fun hx => ⟨t, hx, rfl⟩
theorem kys_at {d : List Ty} {t : Ty} {k : Nat} (hk : d[k]? = some t) : (kys d)[k]? = some (ky t) := by
  unfold kys; rw [List.getElem?_map, hk]; rfl
end Go.Proofs.YtmloohicgdemfaaDoor
