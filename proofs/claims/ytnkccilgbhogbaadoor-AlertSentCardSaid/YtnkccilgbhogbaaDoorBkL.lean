/- A book of prints and its groups: plain law. No program. -/
import Derived.Test.YtnkccilgbhogbaaDoorBase
namespace Go.Proofs.YtnkccilgbhogbaaDoor.Bk
set_option linter.unusedVariables false
set_option linter.unusedSimpArgs false
/-- What came to a print. -/
structure Pr where
  p : List UInt8
  g : Int
  ev : Int
  wt : Int
  fi : Int
  la : Int
  deriving DecidableEq, Inhabited
/-- A group. -/
structure Gr where
  id : Int
  ps : List (List UInt8)
  ev : Int
  wt : Int
  fi : Int
  la : Int
  deriving DecidableEq, Inhabited
def mnL : List Int → Int
  | [] => 0
  | x :: r => r.foldl min x
def mxL : List Int → Int
  | [] => 0
  | x :: r => r.foldl max x
theorem mnL_snoc {l : List Int} (h : l ≠ []) (x : Int) : mnL (l ++ [x]) = min (mnL l) x := by
  cases l with
  | nil => exact absurd rfl h
  | cons y r => simp [mnL, List.foldl_append]
theorem mxL_snoc {l : List Int} (h : l ≠ []) (x : Int) : mxL (l ++ [x]) = max (mxL l) x := by
  cases l with
  | nil => exact absurd rfl h
  | cons y r => simp [mxL, List.foldl_append]
theorem foldl_min_le : ∀ (r : List Int) (x : Int), r.foldl min x ≤ x ∧ (∀ y ∈ r, r.foldl min x ≤ y) ∧ (r.foldl min x = x ∨ r.foldl min x ∈ r)
  | [], x => ⟨Int.le_refl _, by simp, .inl rfl⟩
  | z :: r, x => by
    obtain ⟨h1, h2, h3⟩ := foldl_min_le r (min x z)
    rw [List.foldl_cons]
    refine ⟨by omega, fun y hy => ?_, ?_⟩
    · rcases List.mem_cons.1 hy with rfl | hy
      · omega
      · exact h2 y hy
    · rcases h3 with h3 | h3
      · by_cases e : x ≤ z
        · exact .inl (by rw [h3]; omega)
        · exact .inr (by rw [h3, show min x z = z by omega]; exact List.mem_cons_self)
      · exact .inr (List.mem_cons_of_mem _ h3)
theorem foldl_max_le : ∀ (r : List Int) (x : Int), x ≤ r.foldl max x ∧ (∀ y ∈ r, y ≤ r.foldl max x) ∧ (r.foldl max x = x ∨ r.foldl max x ∈ r)
  | [], x => ⟨Int.le_refl _, by simp, .inl rfl⟩
  | z :: r, x => by
    obtain ⟨h1, h2, h3⟩ := foldl_max_le r (max x z)
    rw [List.foldl_cons]
    refine ⟨by omega, fun y hy => ?_, ?_⟩
    · rcases List.mem_cons.1 hy with rfl | hy
      · omega
      · exact h2 y hy
    · rcases h3 with h3 | h3
      · by_cases e : z ≤ x
        · exact .inl (by rw [h3]; omega)
        · exact .inr (by rw [h3, show max x z = z by omega]; exact List.mem_cons_self)
      · exact .inr (List.mem_cons_of_mem _ h3)
theorem mnL_at {l : List Int} (h : l ≠ []) : mnL l ∈ l ∧ ∀ y ∈ l, mnL l ≤ y := by
  cases l with
  | nil => exact absurd rfl h
  | cons x r =>
    obtain ⟨h1, h2, h3⟩ := foldl_min_le r x
    refine ⟨?_, fun y hy => ?_⟩
    · rcases h3 with h3 | h3
      · rw [mnL, h3]; exact List.mem_cons_self
      · exact List.mem_cons_of_mem _ h3
    · rcases List.mem_cons.1 hy with rfl | hy
      · exact h1
      · exact h2 y hy
theorem mxL_at {l : List Int} (h : l ≠ []) : mxL l ∈ l ∧ ∀ y ∈ l, y ≤ mxL l := by
  cases l with
  | nil => exact absurd rfl h
  | cons x r =>
    obtain ⟨h1, h2, h3⟩ := foldl_max_le r x
    refine ⟨?_, fun y hy => ?_⟩
    · rcases h3 with h3 | h3
      · rw [mxL, h3]; exact List.mem_cons_self
      · exact List.mem_cons_of_mem _ h3
    · rcases List.mem_cons.1 hy with rfl | hy
      · exact h1
      · exact h2 y hy
theorem mnL_perm {l m : List Int} (h : l.Perm m) : mnL l = mnL m := by
  by_cases e : l = []
  · subst e; rw [List.nil_perm.1 h]
  · have e' : m ≠ [] := fun e2 => e (by subst e2; exact List.perm_nil.1 h)
    have a := mnL_at e
    have b := mnL_at e'
    have := a.2 _ (h.mem_iff.2 b.1)
    have := b.2 _ (h.mem_iff.1 a.1)
    omega
theorem mxL_perm {l m : List Int} (h : l.Perm m) : mxL l = mxL m := by
  by_cases e : l = []
  · subst e; rw [List.nil_perm.1 h]
  · have e' : m ≠ [] := fun e2 => e (by subst e2; exact List.perm_nil.1 h)
    have a := mxL_at e
    have b := mxL_at e'
    have := a.2 _ (h.mem_iff.2 b.1)
    have := b.2 _ (h.mem_iff.1 a.1)
    omega
/-- The prints of a group. -/
def ofG (id : Int) (m : List Pr) : List Pr := m.filter fun r => r.g == id
theorem ofG_snoc_same {id : Int} (m : List Pr) {r : Pr} (h : r.g = id) : ofG id (m ++ [r]) = ofG id m ++ [r] := by
  rw [ofG, List.filter_append]; simp [ofG, h]
theorem ofG_snoc_other {id : Int} (m : List Pr) {r : Pr} (h : r.g ≠ id) : ofG id (m ++ [r]) = ofG id m := by
  rw [ofG, List.filter_append]; simp [ofG, h]
theorem ofG_len (id : Int) (m : List Pr) : (ofG id m).length ≤ m.length := List.length_filter_le _ _
def sumL : List Int → Int
  | [] => 0
  | x :: r => x + sumL r
theorem sumL_append : ∀ l m : List Int, sumL (l ++ m) = sumL l + sumL m
  | [], m => by simp [sumL]
  | x :: l, m => by rw [List.cons_append, sumL, sumL, sumL_append l m]; omega
theorem sumL_snoc (l : List Int) (x : Int) : sumL (l ++ [x]) = sumL l + x := by rw [sumL_append]; simp [sumL]
theorem sumL_perm {l m : List Int} (h : l.Perm m) : sumL l = sumL m := by
  induction h with
  | nil => rfl
  | cons x _ ih => simp [sumL, ih]
  | swap x y l => simp [sumL]; omega
  | trans _ _ h1 h2 => exact h1.trans h2
/-- A group in which the prints stand as they came. -/
def rawG (id : Int) (m : List Pr) : Gr := ⟨id, (ofG id m).map Pr.p, sumL ((ofG id m).map Pr.ev), sumL ((ofG id m).map Pr.wt), mnL ((ofG id m).map Pr.fi), mxL ((ofG id m).map Pr.la)⟩
theorem rawG_other {id : Int} (m : List Pr) {r : Pr} (h : r.g ≠ id) : rawG id (m ++ [r]) = rawG id m := by rw [rawG, ofG_snoc_other m h]; rfl
theorem rawG_same (m : List Pr) (r : Pr) (hm : ∃ x ∈ m, x.g = r.g) :
    rawG r.g (m ++ [r]) = ⟨r.g, (rawG r.g m).ps ++ [r.p], (rawG r.g m).ev + r.ev, (rawG r.g m).wt + r.wt, min (rawG r.g m).fi r.fi, max (rawG r.g m).la r.la⟩ := by
  obtain ⟨x, hx, hg⟩ := hm
  have hne : ofG r.g m ≠ [] := List.ne_nil_of_mem (List.mem_filter.2 ⟨hx, by simpa using hg⟩)
  simp only [rawG, ofG_snoc_same m rfl, List.map_append, List.map_cons, List.map_nil, sumL_snoc]
  rw [mnL_snoc (by simpa using hne), mxL_snoc (by simpa using hne)]
theorem ofG_none {id : Int} {m : List Pr} (h : ¬ ∃ x ∈ m, x.g = id) : ofG id m = [] := by
  rw [ofG, List.filter_eq_nil_iff]
  exact fun x hx e => h ⟨x, hx, by simpa using e⟩
theorem rawG_new (m : List Pr) (r : Pr) (hm : ¬ ∃ x ∈ m, x.g = r.g) : rawG r.g (m ++ [r]) = ⟨r.g, [r.p], r.ev, r.wt, r.fi, r.la⟩ := by
  simp [rawG, ofG_snoc_same m rfl, ofG_none hm, sumL, mnL, mxL]
def srtP (l : List (List UInt8)) : List (List UInt8) := l.mergeSort fun x y => decide (x ≤ y)
theorem srtP_perm (l : List (List UInt8)) : (srtP l).Perm l := List.mergeSort_perm _ _
theorem srtP_sorted (l : List (List UInt8)) : (srtP l).Pairwise fun x y => x ≤ y := by
  have h : (srtP l).Pairwise fun x y => decide (x ≤ y) = true :=
    List.pairwise_mergeSort (le := fun (x y : List UInt8) => decide (x ≤ y)) (fun a b c h1 h2 => decide_eq_true (List.le_trans (of_decide_eq_true h1) (of_decide_eq_true h2))) (fun a b => by
      rcases List.le_total a b with h | h
      · simp [h]
      · simp [h]) l
  exact h.imp fun h => of_decide_eq_true h
theorem sorted_oneP : ∀ (l m : List (List UInt8)), l.Perm m → l.Pairwise (fun x y => x ≤ y) → m.Pairwise (fun x y => x ≤ y) → l = m
  | [], m, hp, _, _ => (List.nil_perm.1 hp).symm
  | a :: l, [], hp, _, _ => absurd hp.length_eq (by simp)
  | a :: l, b :: m, hp, hl, hm => by
    rw [List.pairwise_cons] at hl hm
    have hb : b ∈ a :: l := hp.symm.subset List.mem_cons_self
    have ha : a ∈ b :: m := hp.subset List.mem_cons_self
    have e : a = b := by
      rcases List.mem_cons.1 hb with e | hb
      · exact e.symm
      · rcases List.mem_cons.1 ha with e | ha
        · exact e
        · exact List.le_antisymm (hl.1 b hb) (hm.1 a ha)
    subst e
    rw [sorted_oneP l m (List.Perm.cons_inv hp) hl.2 hm.2]
theorem srtP_of {l m : List (List UInt8)} (hp : m.Perm l) (hs : m.Pairwise fun x y => x ≤ y) : m = srtP l := sorted_oneP _ _ (hp.trans (srtP_perm l).symm) hs (srtP_sorted l)
theorem srtP_eq {l m : List (List UInt8)} (hp : m.Perm l) : srtP m = srtP l := srtP_of ((srtP_perm m).trans hp) (srtP_sorted m)
theorem srtP_len (l : List (List UInt8)) : (srtP l).length = l.length := (srtP_perm l).length_eq
/-- A group as it is told. -/
def grO (id : Int) (m : List Pr) : Gr := { rawG id m with ps := srtP (rawG id m).ps }
theorem ofG_perm {l m : List Pr} (h : l.Perm m) (id : Int) : (ofG id l).Perm (ofG id m) := h.filter _
theorem grO_perm {l m : List Pr} (h : l.Perm m) (id : Int) : grO id l = grO id m := by
  have hp := ofG_perm h id
  simp only [grO, rawG]
  rw [srtP_eq (hp.map Pr.p), sumL_perm (hp.map Pr.ev), sumL_perm (hp.map Pr.wt), mnL_perm (hp.map Pr.fi), mxL_perm (hp.map Pr.la)]
/-- gs are the groups of l, by their numbers. -/
structure IsGr (l : List Pr) (gs : List Gr) : Prop where
  up : gs.Pairwise fun x y => x.id < y.id
  has : ∀ i : Int, (∃ g ∈ gs, g.id = i) ↔ ∃ r ∈ l, r.g = i
  eq : ∀ g ∈ gs, g = grO g.id l
theorem strict_one : ∀ (l m : List Gr), (∀ x, x ∈ l ↔ x ∈ m) → l.Pairwise (fun x y => x.id < y.id) → m.Pairwise (fun x y => x.id < y.id) → l = m
  | [], [], _, _, _ => rfl
  | [], b :: m, h, _, _ => by have := (h b).2 List.mem_cons_self; simp at this
  | a :: l, [], h, _, _ => by have := (h a).1 List.mem_cons_self; simp at this
  | a :: l, b :: m, h, hl, hm => by
    rw [List.pairwise_cons] at hl hm
    have e : a = b := by
      rcases List.mem_cons.1 ((h a).1 List.mem_cons_self) with e | ha
      · exact e
      · rcases List.mem_cons.1 ((h b).2 List.mem_cons_self) with e | hb
        · exact e.symm
        · have := hl.1 b hb; have := hm.1 a ha; omega
    subst e
    congr 1
    refine strict_one l m (fun x => ⟨fun hx => ?_, fun hx => ?_⟩) hl.2 hm.2
    · rcases List.mem_cons.1 ((h x).1 (List.mem_cons_of_mem _ hx)) with e | hx'
      · subst e; have := hl.1 x hx; omega
      · exact hx'
    · rcases List.mem_cons.1 ((h x).2 (List.mem_cons_of_mem _ hx)) with e | hx'
      · subst e; have := hm.1 x hx; omega
      · exact hx'
theorem IsGr.one {l : List Pr} {gs hs : List Gr} (h : IsGr l gs) (k : IsGr l hs) : gs = hs := by
  have go : ∀ {gs hs : List Gr}, IsGr l gs → IsGr l hs → ∀ x, x ∈ gs → x ∈ hs := fun {gs hs} h k x hx => by
    obtain ⟨y, hy, e⟩ := (k.has x.id).2 ((h.has x.id).1 ⟨x, hx, rfl⟩)
    rw [h.eq x hx, ← e, ← k.eq y hy]
    exact hy
  exact strict_one gs hs (fun x => ⟨go h k x, go k h x⟩) h.up k.up
theorem IsGr.perm {l m : List Pr} {gs : List Gr} (h : IsGr l gs) (hp : l.Perm m) : IsGr m gs :=
  ⟨h.up, fun i => (h.has i).trans ⟨fun ⟨r, hr, e⟩ => ⟨r, hp.mem_iff.1 hr, e⟩, fun ⟨r, hr, e⟩ => ⟨r, hp.mem_iff.2 hr, e⟩⟩, fun g hg => (h.eq g hg).trans (grO_perm hp _)⟩
end Go.Proofs.YtnkccilgbhogbaaDoor.Bk
