/- Tallies: one is counted; what the map of them reads as. Plain law. -/
import Derived.Test.YtkoijhecahebgaaDoorGtMap
import Derived.Maps.OwnSet
namespace Go.Proofs.YtkoijhecahebgaaDoor
open Go.Maps
set_option linter.unusedVariables false
set_option linter.unusedSimpArgs false
abbrev Tag := ByteArray × Int × ByteArray
def mkT (t : Tag) (m : Int) : Tl := ⟨t.1, t.2.1, t.2.2, m⟩
def tagL (t : Tag) : Lit := rsL t.1 t.2.1 t.2.2
/-- One more of a kind. -/
def incT (t : Tag) : List Tl → List Tl
  | [] => [mkT t 1]
  | x :: l => if x.tag = t then mkT t (x.many + 1) :: l else x :: incT t l
/-- How many of a kind. -/
def getT (t : Tag) : List Tl → Int
  | [] => 0
  | x :: l => if x.tag = t then x.many else getT t l
theorem tag_mk (t : Tag) (m : Int) : (mkT t m).tag = t := rfl
theorem incT_tags (t : Tag) : ∀ l : List Tl, (t ∈ l.map Tl.tag ∧ (incT t l).map Tl.tag = l.map Tl.tag) ∨ (¬ t ∈ l.map Tl.tag ∧ (incT t l).map Tl.tag = l.map Tl.tag ++ [t])
  | [] => .inr ⟨by simp, rfl⟩
  | x :: l => by
    unfold incT
    by_cases h : x.tag = t
    · rw [if_pos h]
      refine .inl ⟨by rw [List.map_cons, h]; exact List.mem_cons_self, ?_⟩
      rw [List.map_cons, tag_mk, List.map_cons, h]
    · rw [if_neg h]
      have h' : ¬ t = x.tag := fun e => h e.symm
      rcases incT_tags t l with ⟨h1, h2⟩ | ⟨h1, h2⟩
      · exact .inl ⟨by rw [List.map_cons]; exact List.mem_cons_of_mem _ h1, by rw [List.map_cons, List.map_cons, h2]⟩
      · exact .inr ⟨by rw [List.map_cons, List.mem_cons]; exact not_or.2 ⟨h', h1⟩, by rw [List.map_cons, List.map_cons, h2]; rfl⟩
theorem incT_nodup {t : Tag} {l : List Tl} (h : (l.map Tl.tag).Nodup) : ((incT t l).map Tl.tag).Nodup := by
  rcases incT_tags t l with ⟨h1, h2⟩ | ⟨hm, h2⟩
  · rw [h2]; exact h
  · rw [h2, List.nodup_append]
    refine ⟨h, by simp, fun a ha b hb => ?_⟩
    simp only [List.mem_singleton] at hb
    subst hb
    exact fun e => hm (e ▸ ha)
theorem getT_inc (t u : Tag) : ∀ l : List Tl, getT u (incT t l) = if u = t then getT t l + 1 else getT u l
  | [] => by
    unfold incT getT
    rw [tag_mk]
    by_cases h : u = t
    · rw [if_pos h.symm, if_pos h]; rfl
    · rw [if_neg (fun e => h e.symm), if_neg h]; rfl
  | x :: l => by
    unfold incT
    by_cases hx : x.tag = t
    · rw [if_pos hx]
      by_cases h : u = t
      · subst h; rw [if_pos rfl]; simp only [getT, tag_mk, if_pos hx, if_true]; rfl
      · rw [if_neg h]
        have h1 : ¬ t = u := fun e => h e.symm
        have h2 : ¬ x.tag = u := fun e => h1 (hx.symm.trans e)
        show (if t = u then _ else getT u l) = (if x.tag = u then _ else getT u l)
        rw [if_neg h1, if_neg h2]
    · rw [if_neg hx]
      have ih := getT_inc t u l
      by_cases h : u = t
      · subst h
        rw [if_pos rfl] at ih ⊢
        simp only [getT, if_neg hx]
        exact ih
      · rw [if_neg h] at ih ⊢
        unfold getT
        split
        · rfl
        · exact ih
theorem getT_mem {x : Tl} : ∀ {l : List Tl}, x ∈ l → (l.map Tl.tag).Nodup → getT x.tag l = x.many
  | y :: l, hx, hn => by
    rw [List.map_cons, List.nodup_cons] at hn
    unfold getT
    rcases List.mem_cons.1 hx with e | hx
    · rw [e]; exact if_pos rfl
    · have hne : ¬ y.tag = x.tag := fun e => hn.1 (by rw [e]; exact List.mem_map.2 ⟨x, hx, rfl⟩)
      rw [if_neg hne]
      exact getT_mem hx hn.2
theorem getT_none {t : Tag} : ∀ {l : List Tl}, ¬ t ∈ l.map Tl.tag → getT t l = 0
  | [], _ => rfl
  | x :: l, h => by
    rw [List.map_cons, List.mem_cons] at h
    unfold getT
    rw [if_neg (fun e => h (.inl e.symm)), getT_none (fun hm => h (.inr hm))]
/-- A tag that can be a key. -/
structure TagOk (t : Tag) : Prop where
  k : t.1.size ≤ maxLen
  n : t.2.2.size ≤ maxLen
  y : (Lit.int .i64 t.2.1).wf = true
theorem tagL_inj {t u : Tag} (ht : TagOk t) (hu : TagOk u) (h : tagL t = tagL u) : t = u := by
  obtain ⟨h1, h2, h3⟩ := rs_inj (key_rs ht.k ht.n ht.y) (key_rs hu.k hu.n hu.y) h
  obtain ⟨a, b, c⟩ := t
  obtain ⟨a', b', c'⟩ := u
  simp at h1 h2 h3
  rw [h1, h2, h3]
theorem tagL_key {t : Tag} (ht : TagOk t) : WideAt.IsKeyLit (tagL t) := law_rs.key (key_rs ht.k ht.n ht.y)
/-- The map reads as the tallies. -/
structure MapT (D : DataW Unit) (l : List Tl) : Prop where
  map : IsMap D
  at_ : ∀ t, TagOk t → D.atKey (tagL t) (.lit (.int .i64 0)) = .lit (.int .i64 (getT t l))
  has : ∀ t, TagOk t → (Maps.has D (tagL t) = true ↔ t ∈ l.map Tl.tag)
  all : ∀ kl, Maps.has D kl = true → ∃ t, TagOk t ∧ kl = tagL t
theorem MapT.empty : MapT (.map []) [] :=
  ⟨isMap_empty, fun t _ => rfl, fun t _ => by simp [Maps.has], fun kl h => by simp [Maps.has] at h⟩
theorem MapT.inc {D : DataW Unit} {l : List Tl} (h : MapT D l) {t : Tag} (ht : TagOk t) {v : Int} (hv : v = getT t l + 1) : MapT (D.put (tagL t) (.lit (.int .i64 v))) (incT t l) := by
  subst hv
  have hk := tagL_key ht
  refine ⟨h.map.put _ _, fun u hu => ?_, fun u hu => ?_, fun kl hkl => ?_⟩
  · rw [getT_inc]
    by_cases e : u = t
    · subst e; rw [if_pos rfl, atKey_put_same h.map hk]
    · rw [if_neg e, atKey_put_other (fun e2 => e (tagL_inj hu ht e2))]; exact h.at_ u hu
  · have hm : u ∈ (incT t l).map Tl.tag ↔ u = t ∨ u ∈ l.map Tl.tag := by
      rcases incT_tags t l with ⟨h1, h2⟩ | ⟨h1, h2⟩
      · rw [h2]
        exact ⟨.inr, fun hh => hh.elim (fun e => e ▸ h1) id⟩
      · rw [h2, List.mem_append, List.mem_singleton]
        exact ⟨fun hh => hh.elim .inr .inl, fun hh => hh.elim .inr .inl⟩
    rw [hm]
    by_cases e : u = t
    · subst e
      rw [has_put_same h.map hk]
      exact ⟨fun _ => .inl rfl, fun _ => rfl⟩
    · rw [has_put_other (fun e2 => e (tagL_inj hu ht e2)), h.has u hu]
      exact ⟨.inr, fun hh => hh.resolve_left e⟩
  · by_cases e : kl = tagL t
    · exact ⟨t, ht, e⟩
    · rw [has_put_other e] at hkl
      exact h.all kl hkl
end Go.Proofs.YtkoijhecahebgaaDoor
