/- The reference's book: records by print. Plain law. -/
import Derived.Test.YtapfcnfmonknjaaGreatDoorBkPo
namespace Go.Proofs.YtapfcnfmonknjaaGreatDoor.Bk
open Go.RowKit Go.Maps Go.Sort
set_option linter.unusedVariables false
set_option linter.unusedSimpArgs false
/-- Records rising by print. -/
def Up (l : List Pr) : Prop := l.Pairwise fun x y => x.p < y.p
theorem Up.nd {l : List Pr} (h : Up l) : (l.map Pr.p).Nodup := by
  rw [List.nodup_iff_pairwise_ne, List.pairwise_map]
  exact h.imp fun {a b} h e => by rw [e] at h; exact List.lt_irrefl _ h
theorem Up.mapG {l : List Pr} (h : Up l) {f : Pr → Pr} (hf : ∀ r, (f r).p = r.p) : Up (l.map f) := by
  unfold Up
  rw [List.pairwise_map]
  exact h.imp fun {a b} h => by rw [hf, hf]; exact h
theorem Up.pid {l : List Pr} (h : Up l) (id : Int) : pid id l = prs id l := by
  refine srtP_of (l := (ofG id l).map Pr.p) (List.Perm.refl _) ?_
  show ((ofG id l).map Pr.p).Pairwise _
  rw [List.pairwise_map]
  exact (List.Pairwise.sublist List.filter_sublist h).imp fun h => List.le_of_lt h
/-- Two rising rows of the same records are one. -/
theorem Up.one : ∀ {l m : List Pr}, l.Perm m → Up l → Up m → l = m
  | [], m, hp, _, _ => (List.nil_perm.1 hp).symm
  | a :: l, [], hp, _, _ => absurd hp.length_eq (by simp)
  | a :: l, b :: m, hp, hl, hm => by
    unfold Up at hl hm
    rw [List.pairwise_cons] at hl hm
    have hb : b ∈ a :: l := hp.symm.subset List.mem_cons_self
    have ha : a ∈ b :: m := hp.subset List.mem_cons_self
    have e : a = b := by
      rcases List.mem_cons.1 hb with e | hb
      · exact e.symm
      · rcases List.mem_cons.1 ha with e | ha
        · exact e
        · exact absurd (List.lt_trans (hl.1 b hb) (hm.1 a ha)) (List.lt_irrefl _)
    subst e
    rw [Up.one (List.Perm.cons_inv hp) hl.2 hm.2]
/-- The groups as the reference tells them: numbers from 1 on. -/
def grsF (l : List Pr) (k : Nat) : List Gr := ((List.range k).map fun i : Nat => ((i : Int) + 1)).flatMap fun id => if pid id l = [] then [] else [rawG id l]
theorem grsF_succ (l : List Pr) (k : Nat) : grsF l (k + 1) = grsF l k ++ (if pid ((k : Int) + 1) l = [] then [] else [rawG ((k : Int) + 1) l]) := by
  rw [grsF, List.range_succ, List.map_append, List.flatMap_append]
  simp [grsF]
theorem mem_grsF {l : List Pr} {k : Nat} {g : Gr} : g ∈ grsF l k ↔ ∃ i : Nat, i < k ∧ pid ((i : Int) + 1) l ≠ [] ∧ g = rawG ((i : Int) + 1) l := by
  rw [grsF, List.mem_flatMap]
  constructor
  · rintro ⟨id, hid, hg⟩
    obtain ⟨i, hi, rfl⟩ := List.mem_map.1 hid
    split at hg
    · simp at hg
    · rename_i h
      exact ⟨i, List.mem_range.1 hi, h, by simpa using hg⟩
  · rintro ⟨i, hi, h, rfl⟩
    exact ⟨(i : Int) + 1, List.mem_map.2 ⟨i, List.mem_range.2 hi, rfl⟩, by rw [if_neg h]; simp⟩
theorem grsF_up (l : List Pr) : ∀ k : Nat, (grsF l k).Pairwise fun x y => x.id < y.id
  | 0 => by simp [grsF]
  | k + 1 => by
    rw [grsF_succ, List.pairwise_append]
    refine ⟨grsF_up l k, by split <;> simp, fun a ha b hb => ?_⟩
    obtain ⟨i, hi, _, rfl⟩ := mem_grsF.1 ha
    split at hb
    · simp at hb
    · rw [List.mem_singleton.1 hb]
      show ((i : Int) + 1) < (k : Int) + 1
      omega
/-- They are the groups. -/
theorem isGr_grsF {l : List Pr} (hu : Up l) {k : Nat} (hg : ∀ r ∈ l, 1 ≤ r.g ∧ r.g ≤ k) : IsGr l (grsF l k) := by
  refine ⟨grsF_up l k, fun i => ⟨?_, ?_⟩, fun g hgm => ?_⟩
  · rintro ⟨g, hgm, rfl⟩
    obtain ⟨i, hi, hne, rfl⟩ := mem_grsF.1 hgm
    obtain ⟨s, hs⟩ := List.exists_mem_of_ne_nil _ hne
    obtain ⟨r, hr, _⟩ := List.mem_map.1 hs
    obtain ⟨h1, h2⟩ := List.mem_filter.1 hr
    exact ⟨r, h1, (show r.g = (i : Int) + 1 by simpa using h2)⟩
  · rintro ⟨r, hr, rfl⟩
    have h1 := hg r hr
    refine ⟨rawG r.g l, mem_grsF.2 ⟨(r.g - 1).toNat, by omega, ?_, ?_⟩, rfl⟩
    · rw [show (((r.g - 1).toNat : Nat) : Int) + 1 = r.g by omega]
      exact List.ne_nil_of_mem (List.mem_map.2 ⟨r, List.mem_filter.2 ⟨hr, by simp⟩, rfl⟩)
    · rw [show (((r.g - 1).toNat : Nat) : Int) + 1 = r.g by omega]
  · obtain ⟨i, hi, hne, rfl⟩ := mem_grsF.1 hgm
    show rawG _ l = grO ((i : Int) + 1) l
    rw [grO, show (rawG ((i : Int) + 1) l).ps = pid ((i : Int) + 1) l from rfl]
    have e : srtP (pid ((i : Int) + 1) l) = pid ((i : Int) + 1) l := (hu.pid _).symm
    rw [e]
    rfl
end Go.Proofs.YtapfcnfmonknjaaGreatDoor.Bk
