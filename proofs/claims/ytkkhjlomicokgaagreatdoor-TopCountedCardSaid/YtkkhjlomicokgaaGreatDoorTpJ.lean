/- BkL, BkM: texts of one's own, in one file. -/
import Derived.Test.YtkkhjlomicokgaaGreatDoorTpA
import Derived.Maps.RangeWalk
import Derived.Maps.OwnSet
import Derived.Maps.Views
/- A book of prints and its groups: plain law. No program. -/
namespace Go.Proofs.YtkkhjlomicokgaaGreatDoor.Bk
set_option linter.unusedVariables false
set_option linter.unusedSimpArgs false
/-- What came to a print. -/
structure Pr where
  p : List UInt8
  g : Int
  ev : Int
  wt : Int
  fi : Int
  la : Int
  deriving DecidableEq, Inhabited
/-- A group. -/
structure Gr where
  id : Int
  ps : List (List UInt8)
  ev : Int
  wt : Int
  fi : Int
  la : Int
  deriving DecidableEq, Inhabited
def mnL : List Int → Int
  | [] => 0
  | x :: r => r.foldl min x
def mxL : List Int → Int
  | [] => 0
  | x :: r => r.foldl max x
theorem mnL_snoc {l : List Int} (h : l ≠ []) (x : Int) : mnL (l ++ [x]) = min (mnL l) x := by
  cases l with
  | nil => exact absurd rfl h
  | cons y r => simp [mnL, List.foldl_append]
theorem mxL_snoc {l : List Int} (h : l ≠ []) (x : Int) : mxL (l ++ [x]) = max (mxL l) x := by
  cases l with
  | nil => exact absurd rfl h
  | cons y r => simp [mxL, List.foldl_append]
theorem foldl_min_le : ∀ (r : List Int) (x : Int), r.foldl min x ≤ x ∧ (∀ y ∈ r, r.foldl min x ≤ y) ∧ (r.foldl min x = x ∨ r.foldl min x ∈ r)
  | [], x => ⟨Int.le_refl _, by simp, .inl rfl⟩
  | z :: r, x => by
    obtain ⟨h1, h2, h3⟩ := foldl_min_le r (min x z)
    rw [List.foldl_cons]
    refine ⟨by omega, fun y hy => ?_, ?_⟩
    · rcases List.mem_cons.1 hy with rfl | hy
      · omega
      · exact h2 y hy
    · rcases h3 with h3 | h3
      · by_cases e : x ≤ z
        · exact .inl (by rw [h3]; omega)
        · exact .inr (by rw [h3, show min x z = z by omega]; exact List.mem_cons_self)
      · exact .inr (List.mem_cons_of_mem _ h3)
theorem foldl_max_le : ∀ (r : List Int) (x : Int), x ≤ r.foldl max x ∧ (∀ y ∈ r, y ≤ r.foldl max x) ∧ (r.foldl max x = x ∨ r.foldl max x ∈ r)
  | [], x => ⟨Int.le_refl _, by simp, .inl rfl⟩
  | z :: r, x => by
    obtain ⟨h1, h2, h3⟩ := foldl_max_le r (max x z)
    rw [List.foldl_cons]
    refine ⟨by omega, fun y hy => ?_, ?_⟩
    · rcases List.mem_cons.1 hy with rfl | hy
      · omega
      · exact h2 y hy
    · rcases h3 with h3 | h3
      · by_cases e : z ≤ x
        · exact .inl (by rw [h3]; omega)
        · exact .inr (by rw [h3, show max x z = z by omega]; exact List.mem_cons_self)
      · exact .inr (List.mem_cons_of_mem _ h3)
theorem mnL_at {l : List Int} (h : l ≠ []) : mnL l ∈ l ∧ ∀ y ∈ l, mnL l ≤ y := by
  cases l with
  | nil => exact absurd rfl h
  | cons x r =>
    obtain ⟨h1, h2, h3⟩ := foldl_min_le r x
    refine ⟨?_, fun y hy => ?_⟩
    · rcases h3 with h3 | h3
      · rw [mnL, h3]; exact List.mem_cons_self
      · exact List.mem_cons_of_mem _ h3
    · rcases List.mem_cons.1 hy with rfl | hy
      · exact h1
      · exact h2 y hy
theorem mxL_at {l : List Int} (h : l ≠ []) : mxL l ∈ l ∧ ∀ y ∈ l, y ≤ mxL l := by
  cases l with
  | nil => exact absurd rfl h
  | cons x r =>
    obtain ⟨h1, h2, h3⟩ := foldl_max_le r x
    refine ⟨?_, fun y hy => ?_⟩
    · rcases h3 with h3 | h3
      · rw [mxL, h3]; exact List.mem_cons_self
      · exact List.mem_cons_of_mem _ h3
    · rcases List.mem_cons.1 hy with rfl | hy
      · exact h1
      · exact h2 y hy
theorem mnL_perm {l m : List Int} (h : l.Perm m) : mnL l = mnL m := by
  by_cases e : l = []
  · subst e; rw [List.nil_perm.1 h]
  · have e' : m ≠ [] := fun e2 => e (by subst e2; exact List.perm_nil.1 h)
    have a := mnL_at e
    have b := mnL_at e'
    have := a.2 _ (h.mem_iff.2 b.1)
    have := b.2 _ (h.mem_iff.1 a.1)
    omega
theorem mxL_perm {l m : List Int} (h : l.Perm m) : mxL l = mxL m := by
  by_cases e : l = []
  · subst e; rw [List.nil_perm.1 h]
  · have e' : m ≠ [] := fun e2 => e (by subst e2; exact List.perm_nil.1 h)
    have a := mxL_at e
    have b := mxL_at e'
    have := a.2 _ (h.mem_iff.2 b.1)
    have := b.2 _ (h.mem_iff.1 a.1)
    omega
/-- The prints of a group. -/
def ofG (id : Int) (m : List Pr) : List Pr := m.filter fun r => r.g == id
theorem ofG_snoc_same {id : Int} (m : List Pr) {r : Pr} (h : r.g = id) : ofG id (m ++ [r]) = ofG id m ++ [r] := by
  rw [ofG, List.filter_append]; simp [ofG, h]
theorem ofG_snoc_other {id : Int} (m : List Pr) {r : Pr} (h : r.g ≠ id) : ofG id (m ++ [r]) = ofG id m := by
  rw [ofG, List.filter_append]; simp [ofG, h]
theorem ofG_len (id : Int) (m : List Pr) : (ofG id m).length ≤ m.length := List.length_filter_le _ _
def sumL : List Int → Int
  | [] => 0
  | x :: r => x + sumL r
theorem sumL_append : ∀ l m : List Int, sumL (l ++ m) = sumL l + sumL m
  | [], m => by simp [sumL]
  | x :: l, m => by rw [List.cons_append, sumL, sumL, sumL_append l m]; omega
theorem sumL_snoc (l : List Int) (x : Int) : sumL (l ++ [x]) = sumL l + x := by rw [sumL_append]; simp [sumL]
theorem sumL_perm {l m : List Int} (h : l.Perm m) : sumL l = sumL m := by
  induction h with
  | nil => rfl
  | cons x _ ih => simp [sumL, ih]
  | swap x y l => simp [sumL]; omega
  | trans _ _ h1 h2 => exact h1.trans h2
/-- A group in which the prints stand as they came. -/
def rawG (id : Int) (m : List Pr) : Gr := ⟨id, (ofG id m).map Pr.p, sumL ((ofG id m).map Pr.ev), sumL ((ofG id m).map Pr.wt), mnL ((ofG id m).map Pr.fi), mxL ((ofG id m).map Pr.la)⟩
theorem rawG_other {id : Int} (m : List Pr) {r : Pr} (h : r.g ≠ id) : rawG id (m ++ [r]) = rawG id m := by rw [rawG, ofG_snoc_other m h]; rfl
theorem rawG_same (m : List Pr) (r : Pr) (hm : ∃ x ∈ m, x.g = r.g) :
    rawG r.g (m ++ [r]) = ⟨r.g, (rawG r.g m).ps ++ [r.p], (rawG r.g m).ev + r.ev, (rawG r.g m).wt + r.wt, min (rawG r.g m).fi r.fi, max (rawG r.g m).la r.la⟩ := by
  obtain ⟨x, hx, hg⟩ := hm
  have hne : ofG r.g m ≠ [] := List.ne_nil_of_mem (List.mem_filter.2 ⟨hx, by simpa using hg⟩)
  simp only [rawG, ofG_snoc_same m rfl, List.map_append, List.map_cons, List.map_nil, sumL_snoc]
  rw [mnL_snoc (by simpa using hne), mxL_snoc (by simpa using hne)]
theorem ofG_none {id : Int} {m : List Pr} (h : ¬ ∃ x ∈ m, x.g = id) : ofG id m = [] := by
  rw [ofG, List.filter_eq_nil_iff]
  exact fun x hx e => h ⟨x, hx, by simpa using e⟩
theorem rawG_new (m : List Pr) (r : Pr) (hm : ¬ ∃ x ∈ m, x.g = r.g) : rawG r.g (m ++ [r]) = ⟨r.g, [r.p], r.ev, r.wt, r.fi, r.la⟩ := by
  simp [rawG, ofG_snoc_same m rfl, ofG_none hm, sumL, mnL, mxL]
def srtP (l : List (List UInt8)) : List (List UInt8) := l.mergeSort fun x y => decide (x ≤ y)
theorem srtP_perm (l : List (List UInt8)) : (srtP l).Perm l := List.mergeSort_perm _ _
theorem srtP_sorted (l : List (List UInt8)) : (srtP l).Pairwise fun x y => x ≤ y := by
  have h : (srtP l).Pairwise fun x y => decide (x ≤ y) = true :=
    List.pairwise_mergeSort (le := fun (x y : List UInt8) => decide (x ≤ y)) (fun a b c h1 h2 => decide_eq_true (List.le_trans (of_decide_eq_true h1) (of_decide_eq_true h2))) (fun a b => by
      rcases List.le_total a b with h | h
      · simp [h]
      · simp [h]) l
  exact h.imp fun h => of_decide_eq_true h
theorem sorted_oneP : ∀ (l m : List (List UInt8)), l.Perm m → l.Pairwise (fun x y => x ≤ y) → m.Pairwise (fun x y => x ≤ y) → l = m
  | [], m, hp, _, _ => (List.nil_perm.1 hp).symm
  | a :: l, [], hp, _, _ => absurd hp.length_eq (by simp)
  | a :: l, b :: m, hp, hl, hm => by
    rw [List.pairwise_cons] at hl hm
    have hb : b ∈ a :: l := hp.symm.subset List.mem_cons_self
    have ha : a ∈ b :: m := hp.subset List.mem_cons_self
    have e : a = b := by
      rcases List.mem_cons.1 hb with e | hb
      · exact e.symm
      · rcases List.mem_cons.1 ha with e | ha
        · exact e
        · exact List.le_antisymm (hl.1 b hb) (hm.1 a ha)
    subst e
    rw [sorted_oneP l m (List.Perm.cons_inv hp) hl.2 hm.2]
theorem srtP_of {l m : List (List UInt8)} (hp : m.Perm l) (hs : m.Pairwise fun x y => x ≤ y) : m = srtP l := sorted_oneP _ _ (hp.trans (srtP_perm l).symm) hs (srtP_sorted l)
theorem srtP_eq {l m : List (List UInt8)} (hp : m.Perm l) : srtP m = srtP l := srtP_of ((srtP_perm m).trans hp) (srtP_sorted m)
theorem srtP_len (l : List (List UInt8)) : (srtP l).length = l.length := (srtP_perm l).length_eq
/-- A group as it is told. -/
def grO (id : Int) (m : List Pr) : Gr := { rawG id m with ps := srtP (rawG id m).ps }
theorem ofG_perm {l m : List Pr} (h : l.Perm m) (id : Int) : (ofG id l).Perm (ofG id m) := h.filter _
theorem grO_perm {l m : List Pr} (h : l.Perm m) (id : Int) : grO id l = grO id m := by
  have hp := ofG_perm h id
  simp only [grO, rawG]
  rw [srtP_eq (hp.map Pr.p), sumL_perm (hp.map Pr.ev), sumL_perm (hp.map Pr.wt), mnL_perm (hp.map Pr.fi), mxL_perm (hp.map Pr.la)]
/-- gs are the groups of l, by their numbers. -/
structure IsGr (l : List Pr) (gs : List Gr) : Prop where
  up : gs.Pairwise fun x y => x.id < y.id
  has : ∀ i : Int, (∃ g ∈ gs, g.id = i) ↔ ∃ r ∈ l, r.g = i
  eq : ∀ g ∈ gs, g = grO g.id l
theorem strict_one : ∀ (l m : List Gr), (∀ x, x ∈ l ↔ x ∈ m) → l.Pairwise (fun x y => x.id < y.id) → m.Pairwise (fun x y => x.id < y.id) → l = m
  | [], [], _, _, _ => rfl
  | [], b :: m, h, _, _ => by have := (h b).2 List.mem_cons_self; simp at this
  | a :: l, [], h, _, _ => by have := (h a).1 List.mem_cons_self; simp at this
  | a :: l, b :: m, h, hl, hm => by
    rw [List.pairwise_cons] at hl hm
    have e : a = b := by
      rcases List.mem_cons.1 ((h a).1 List.mem_cons_self) with e | ha
      · exact e
      · rcases List.mem_cons.1 ((h b).2 List.mem_cons_self) with e | hb
        · exact e.symm
        · have := hl.1 b hb; have := hm.1 a ha; omega
    subst e
    congr 1
    refine strict_one l m (fun x => ⟨fun hx => ?_, fun hx => ?_⟩) hl.2 hm.2
    · rcases List.mem_cons.1 ((h x).1 (List.mem_cons_of_mem _ hx)) with e | hx'
      · subst e; have := hl.1 x hx; omega
      · exact hx'
    · rcases List.mem_cons.1 ((h x).2 (List.mem_cons_of_mem _ hx)) with e | hx'
      · subst e; have := hm.1 x hx; omega
      · exact hx'
theorem IsGr.one {l : List Pr} {gs hs : List Gr} (h : IsGr l gs) (k : IsGr l hs) : gs = hs := by
  have go : ∀ {gs hs : List Gr}, IsGr l gs → IsGr l hs → ∀ x, x ∈ gs → x ∈ hs := fun {gs hs} h k x hx => by
    obtain ⟨y, hy, e⟩ := (k.has x.id).2 ((h.has x.id).1 ⟨x, hx, rfl⟩)
    rw [h.eq x hx, ← e, ← k.eq y hy]
    exact hy
  exact strict_one gs hs (fun x => ⟨go h k x, go k h x⟩) h.up k.up
theorem IsGr.perm {l m : List Pr} {gs : List Gr} (h : IsGr l gs) (hp : l.Perm m) : IsGr m gs :=
  ⟨h.up, fun i => (h.has i).trans ⟨fun ⟨r, hr, e⟩ => ⟨r, hp.mem_iff.1 hr, e⟩, fun ⟨r, hr, e⟩ => ⟨r, hp.mem_iff.2 hr, e⟩⟩, fun g hg => (h.eq g hg).trans (grO_perm hp _)⟩
end Go.Proofs.YtkkhjlomicokgaaGreatDoor.Bk

/- A map from keys to places (pointers to blocks of one's own). No program. -/
namespace Go.Proofs.YtkkhjlomicokgaaGreatDoor.Bk
open Go.RowKit Go.Maps
set_option linter.unusedVariables false
set_option linter.unusedSimpArgs false
set_option linter.unusedSectionVars false
/-- A pointer to a block's beginning, or none. -/
def ptV : Option Nat → Value
  | none => .pointer none
  | some k => .pointer (some ⟨k, 0, none⟩)
def ptI : Option Nat → Int
  | none => -1
  | some k => (k : Int)
theorem ptI_inj {a b : Option Nat} (h : ptI a = ptI b) : a = b := by
  cases a <;> cases b <;> simp only [ptI] at h
  · rfl
  · omega
  · omega
  · rw [Int.ofNat.inj h]
def ptE (v : Value) : Option (DataW Unit × List MemPlace) :=
  match v with
  | .pointer none => some (.lit (.int .i64 (-1)), [])
  | .pointer (some ⟨k, 0, none⟩) => some (.lit (.int .i64 (k : Int)), [])
  | _ => none
theorem ptE_mk (q : Option Nat) : ptE (ptV q) = some (.lit (.int .i64 (ptI q)), []) := by cases q <;> rfl
theorem ptE_inv {v : Value} {z : DataW Unit × List MemPlace} (h : ptE v = some z) : ∃ q, v = ptV q ∧ z = (.lit (.int .i64 (ptI q)), []) := by
  unfold ptE at h
  split at h
  · cases h; exact ⟨none, rfl, rfl⟩
  · cases h; exact ⟨some _, rfl, rfl⟩
  · cases h
theorem ptE_at {v : Value} {q : Option Nat} {ps : List MemPlace} (h : ptE v = some (.lit (.int .i64 (ptI q)), ps)) : v = ptV q := by
  obtain ⟨q', rfl, e⟩ := ptE_inv h
  simp only [Prod.mk.injEq, DataW.lit.injEq, Lit.int.injEq, true_and] at e
  rw [ptI_inj e.1]
theorem wpList_lookup_ptr {P : Program} (w : World) {ops : Array Oper} {rest : List Oper} {o : Oper} {a : Act} {Q : Exit → Act → World → Prop}
    (hg : o.guard = none) (m x : Operand) (t : TypeId) (hop : o.op = Op.lookup t m x false)
    (k e : TypeId) (K : Keyed P k) (ht : P.underlying t = some (.map k e)) (hz : (zeroValue e).run P w = .ok (.pointer none) w) (b n : Nat) (D : DataW Unit)
    (hm : a.eval m = .map (some b)) (hown : w.ownsMap P k ptE b n D) (key : Value) (kl : Lit) (hx : a.eval x = key) (hkey : keyOf P k key = some kl) (q : Option Nat) (hq : D.atKey kl (.lit (.int .i64 (-1))) = .lit (.int .i64 (ptI q)))
    (hK : wpList P ops Q rest (a.put o.dst (ptV q)) w) :
    wpList P ops Q (o :: rest) a w := by
  refine wpList_plain hg fun K' hK' => ?_
  obtain ⟨v, ps, hrun, hv⟩ := hown.lookup K ht hz (ptE_mk none) hkey
  rw [show ptI none = -1 from rfl, hq] at hv
  obtain rfl := ptE_at hv
  unfold Oper.wp
  simp [execOp, hop, hm, hx, hrun, Result.andThen]
  exact hK' _ _ (by simpa using hK)
theorem wpList_lookup_some {P : Program} (w : World) {ops : Array Oper} {rest : List Oper} {o : Oper} {a : Act} {Q : Exit → Act → World → Prop}
    (hg : o.guard = none) (m x : Operand) (t : TypeId) (hop : o.op = Op.lookup t m x false)
    (k e : TypeId) (K : Keyed P k) (ht : P.underlying t = some (.map k e)) (hz : (zeroValue e).run P w = .ok (.pointer none) w) (b n : Nat) (D : DataW Unit)
    (hm : a.eval m = .map (some b)) (hown : w.ownsMap P k ptE b n D) (key : Value) (kl : Lit) (hx : a.eval x = key) (hkey : keyOf P k key = some kl) (q : Nat) (hq : ∀ z, D.atKey kl z = .lit (.int .i64 (q : Int)))
    (hK : wpList P ops Q rest (a.put o.dst (.pointer (some ⟨q, 0, none⟩))) w) : wpList P ops Q (o :: rest) a w :=
  wpList_lookup_ptr w hg m x t hop k e K ht hz b n D hm hown key kl hx hkey (some q) (hq _) hK
theorem wpList_lookup_none {P : Program} (w : World) {ops : Array Oper} {rest : List Oper} {o : Oper} {a : Act} {Q : Exit → Act → World → Prop}
    (hg : o.guard = none) (m x : Operand) (t : TypeId) (hop : o.op = Op.lookup t m x false)
    (k e : TypeId) (K : Keyed P k) (ht : P.underlying t = some (.map k e)) (hz : (zeroValue e).run P w = .ok (.pointer none) w) (b n : Nat) (D : DataW Unit)
    (hm : a.eval m = .map (some b)) (hown : w.ownsMap P k ptE b n D) (key : Value) (kl : Lit) (hx : a.eval x = key) (hkey : keyOf P k key = some kl) (hq : ∀ z, D.atKey kl z = z)
    (hK : wpList P ops Q rest (a.put o.dst (.pointer none)) w) : wpList P ops Q (o :: rest) a w :=
  wpList_lookup_ptr w hg m x t hop k e K ht hz b n D hm hown key kl hx hkey none (hq _) hK
/-- The map D has the keys ks, each with its block. -/
structure MapK {κ : Type} (enc : κ → Lit) (ks : List κ) (bk : κ → Nat) (D : DataW Unit) : Prop where
  map : IsMap D
  in_ : ∀ x ∈ ks, ∀ z, D.atKey (enc x) z = .lit (.int .i64 (bk x : Int))
  out : ∀ x, x ∉ ks → ∀ z, D.atKey (enc x) z = z
  has : ∀ x, Maps.has D (enc x) = true ↔ x ∈ ks
  all : ∀ kl, Maps.has D kl = true → ∃ x, x ∈ ks ∧ kl = enc x
  sz : Maps.size D = ks.length
section
variable {κ : Type} [DecidableEq κ] {enc : κ → Lit} {ks : List κ} {bk : κ → Nat} {D : DataW Unit}
theorem MapK.empty (enc : κ → Lit) (bk : κ → Nat) : MapK enc [] bk (.map []) :=
  ⟨isMap_empty, fun x hx => by simp at hx, fun x _ z => rfl, fun x => by simp [Maps.has], fun kl h => by simp [Maps.has] at h, rfl⟩

theorem MapK.put (h : MapK enc ks bk D) (hinj : ∀ x y, enc x = enc y → x = y) {x : κ} (hx : x ∉ ks) (hk : WideAt.IsKeyLit (enc x)) (ht : Tidy D) (v : Nat) :
    MapK enc (ks ++ [x]) (fun y => if y = x then v else bk y) (D.put (enc x) (.lit (.int .i64 (v : Int)))) := by
  refine ⟨h.map.put _ _, fun y hy z => ?_, fun y hy z => ?_, fun y => ?_, fun kl hkl => ?_, ?_⟩
  · by_cases e : y = x
    · subst e; rw [if_pos rfl, atKey_put_same h.map hk]
    · rw [if_neg e, atKey_put_other (fun e2 => e (hinj _ _ e2))]
      rcases List.mem_append.1 hy with hy | hy
      · exact h.in_ y hy z
      · simp at hy; exact absurd hy e
  · rw [List.mem_append, not_or] at hy
    have e : y ≠ x := fun e => hy.2 (by simp [e])
    rw [atKey_put_other (fun e2 => e (hinj _ _ e2))]
    exact h.out y hy.1 z
  · by_cases e : y = x
    · subst e; rw [has_put_same h.map hk]; simp
    · rw [has_put_other (fun e2 => e (hinj _ _ e2)), h.has y, List.mem_append]
      simp [e]
  · by_cases e : kl = enc x
    · exact ⟨x, by simp, e⟩
    · rw [has_put_other e] at hkl
      obtain ⟨y, hy, e2⟩ := h.all kl hkl
      exact ⟨y, List.mem_append_left _ hy, e2⟩
  · rw [size_put ht, h.sz]
    have : Maps.has D (enc x) = false := by
      cases hh : Maps.has D (enc x)
      · rfl
      · exact absurd ((h.has x).1 hh) hx
    rw [this]; simp
/-- ms has come of ks; 'left' is what is still to come. -/
structure Got (enc : κ → Lit) (ks ms : List κ) (left : Lit → Bool) : Prop where
  nd : ms.Nodup
  sub : ∀ x ∈ ms, x ∈ ks
  lf : ∀ x, left (enc x) = true ↔ x ∈ ks ∧ x ∉ ms
  all : ∀ kl, left kl = true → ∃ x, x ∈ ks ∧ kl = enc x
theorem Got.start (h : MapK enc ks bk D) : Got enc ks [] (Maps.has D) :=
  ⟨by simp, by simp, fun x => by rw [h.has x]; simp, h.all⟩
theorem Got.step {ms : List κ} {left : Lit → Bool} (h : Got enc ks ms left) (hinj : ∀ x y, enc x = enc y → x = y) {x : κ} (hk : WideAt.IsKeyLit (enc x)) (hl : left (enc x) = true) : Got enc ks (ms ++ [x]) (fun z => left z && !z.sameKey (enc x)) := by
  have hm := (h.lf x).1 hl
  refine ⟨?_, ?_, ?_, ?_⟩
  · rw [List.nodup_append]
    refine ⟨h.nd, by simp, fun a ha b hb => ?_⟩
    simp at hb
    subst hb
    exact fun e => hm.2 (e ▸ ha)
  · intro y hy
    rcases List.mem_append.1 hy with hy | hy
    · exact h.sub y hy
    · simp at hy; subst hy; exact hm.1
  · intro u
    rw [List.mem_append, Bool.and_eq_true, h.lf u]
    by_cases e : u = x
    · subst e
      have : (enc u).sameKey (enc u) = true := WideAt.sameKey_self hk
      simp [this]
    · have : (enc u).sameKey (enc x) = false := by
        cases hs : (enc u).sameKey (enc x)
        · rfl
        · exact absurd (hinj _ _ (WideAt.sameKey_eq hs)) e
      simp [this, e]
  · intro kl hkl
    rw [Bool.and_eq_true] at hkl
    exact h.all kl hkl.1
theorem Got.done {ms : List κ} {left : Lit → Bool} (h : Got enc ks ms left) (hd : ∀ kl, left kl = false) (hn : ks.Nodup) : ms.Perm ks := by
  rw [List.perm_ext_iff_of_nodup h.nd hn]
  intro x
  refine ⟨h.sub x, fun hx => Decidable.byContradiction fun hc => ?_⟩
  have := (h.lf x).2 ⟨hx, hc⟩
  rw [hd] at this
  cases this
theorem Got.room {ms : List κ} {left : Lit → Bool} (h : Got enc ks ms left) (hn : ks.Nodup) : ms.length ≤ ks.length := h.nd.length_le_of_subset h.sub
end
theorem enc_str (x y : List UInt8) (h : Lit.string x = Lit.string y) : x = y := by injection h
theorem enc_int (x y : Int) (h : Lit.int .i64 x = Lit.int .i64 y) : x = y := by injection h
end Go.Proofs.YtkkhjlomicokgaaGreatDoor.Bk
