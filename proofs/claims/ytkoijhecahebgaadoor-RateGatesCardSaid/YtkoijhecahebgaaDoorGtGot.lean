/- A map's tallies, taken out one by one. Plain law. -/
import Derived.Test.YtkoijhecahebgaaDoorGtTal2
import Derived.Maps.RangeWalk
namespace Go.Proofs.YtkoijhecahebgaaDoor
open Go.Maps
set_option linter.unusedVariables false
set_option linter.unusedSimpArgs false
theorem nodup_of_tags {l : List Tl} (h : (l.map Tl.tag).Nodup) : l.Nodup := (List.pairwise_map.1 h).imp fun hne e => hne (congrArg Tl.tag e)
/-- What has come of l is m; 'left' is what is still to come. -/
structure Got (l m : List Tl) (left : Lit → Bool) : Prop where
  nd : (m.map Tl.tag).Nodup
  sub : ∀ x ∈ m, x ∈ l
  lf : ∀ t, TagOk t → (left (tagL t) = true ↔ t ∈ l.map Tl.tag ∧ ¬ t ∈ m.map Tl.tag)
  all : ∀ kl, left kl = true → ∃ t, TagOk t ∧ kl = tagL t
theorem Got.start {D : DataW Unit} {l : List Tl} (h : MapT D l) : Got l [] (Maps.has D) :=
  ⟨by simp, by simp, fun t ht => by rw [h.has t ht]; simp, h.all⟩
theorem Got.step {l m : List Tl} {left : Lit → Bool} (h : Got l m left) {t : Tag} (ht : TagOk t) (hl : left (tagL t) = true) (hn : (l.map Tl.tag).Nodup) : Got l (m ++ [mkT t (getT t l)]) (fun z => left z && !z.sameKey (tagL t)) := by
  have hm := (h.lf t ht).1 hl
  refine ⟨?_, ?_, ?_, ?_⟩
  · rw [List.map_append, List.nodup_append]
    refine ⟨h.nd, by simp, fun a ha b hb => ?_⟩
    simp [tag_mk] at hb
    subst hb
    exact fun e => hm.2 (e ▸ ha)
  · intro x hx
    rcases List.mem_append.1 hx with hx | hx
    · exact h.sub x hx
    · simp at hx
      obtain ⟨y, hy, hyt⟩ := List.mem_map.1 hm.1
      have h1 := getT_mem hy hn
      subst hyt
      rw [hx, h1]
      exact hy
  · intro u hu
    rw [List.map_append, List.mem_append, Bool.and_eq_true, h.lf u hu]
    by_cases e : u = t
    · subst e
      have : (tagL u).sameKey (tagL u) = true := WideAt.sameKey_self (tagL_key hu)
      simp [this, tag_mk]
    · have : (tagL u).sameKey (tagL t) = false := by
        cases hs : (tagL u).sameKey (tagL t)
        · rfl
        · exact absurd (tagL_inj hu ht (WideAt.sameKey_eq hs)) e
      simp [this, tag_mk, e]
  · intro kl hkl
    rw [Bool.and_eq_true] at hkl
    exact h.all kl hkl.1
theorem Got.done {l m : List Tl} {left : Lit → Bool} (h : Got l m left) (hd : ∀ kl, left kl = false) (hn : (l.map Tl.tag).Nodup) (hok : ∀ x ∈ l, TagOk x.tag) : m.Perm l := by
  have hm : m.Nodup := nodup_of_tags h.nd
  have hl : l.Nodup := nodup_of_tags hn
  rw [List.perm_ext_iff_of_nodup hm hl]
  intro x
  refine ⟨h.sub x, fun hx => ?_⟩
  by_cases hc : x.tag ∈ m.map Tl.tag
  · obtain ⟨y, hy, hyt⟩ := List.mem_map.1 hc
    have h1 := getT_mem (h.sub y hy) hn
    have h2 := getT_mem hx hn
    rw [hyt, h2] at h1
    have : y = x := by
      cases x; cases y
      simp [Tl.tag] at hyt h1
      obtain ⟨a, b, c⟩ := hyt
      subst a b c h1
      rfl
    exact this ▸ hy
  · have := (h.lf x.tag (hok x hx)).2 ⟨List.mem_map.2 ⟨x, hx, rfl⟩, hc⟩
    rw [hd] at this
    cases this
theorem Got.room {l m : List Tl} {left : Lit → Bool} (h : Got l m left) : m.length ≤ l.length :=
  (nodup_of_tags h.nd).length_le_of_subset h.sub
theorem srtT_perm_eq {l m : List Tl} (hp : m.Perm l) (hn : (l.map Tl.tag).Nodup) : srtT m = srtT l :=
  srtT_of ((srtT_perm m).trans hp) hn (srtT_sorted m)
end Go.Proofs.YtkoijhecahebgaaDoor
