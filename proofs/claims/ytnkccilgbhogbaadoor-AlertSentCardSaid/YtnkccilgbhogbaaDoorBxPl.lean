/- What posts answers, in plain words. -/
import Derived.Test.YtnkccilgbhogbaaDoorBxSr
import Derived.Test.YtnkccilgbhogbaaDoorBxQ
namespace Go.Proofs.YtnkccilgbhogbaaDoor
open Go.RowKit Go.Maps
open Bk (ptE ptV MapK Got ptE_mk wpList_lookup_some wpList_lookup_none)
set_option linter.unusedVariables false
set_option linter.unusedSimpArgs false
abbrev PT := Int × List Nt × Int × Int
def Po.of (e : Po) : PT := (e.no, e.nts, e.tr, e.nx)
def poL (l : List (Nat × Pst)) : List PT := l.map fun x => ((x.1 : Int) + 1, x.2.nts, x.2.tr, x.2.nx)
/-- A row of posts of one's own, each with a row of notices of its own. -/
structure PoIn (lo : Nat) (w : World) (v : Value) (es : List Po) : Prop where
  row : w.ownsRow lo 41 4 v es.length (es.flatMap Po.cs)
  sub : ∀ e ∈ es, e.n = e.nts.length ∧ w.ownsRow lo 51 4 e.sl e.n (e.nts.flatMap Nt.cs)
theorem PoIn.below {lo : Nat} {w w' : World} {v : Value} {es : List Po} (h : PoIn lo w v es) (hb : Below w.heap.size w w') : PoIn lo w' v es := ⟨own_below h.row hb, fun e he => ⟨(h.sub e he).1, own_below (h.sub e he).2 hb⟩⟩
theorem PoIn.keep {lo : Nat} {w w' : World} {v : Value} {es : List Po} (h : PoIn lo w v es) (hk : ∀ k o, lo ≤ k → w.heap[k]? = some o → w'.heap[k]? = some o) : PoIn lo w' v es :=
  ⟨own_stayC h.row fun k o e eo => hk k o (h.row.lt k e).1 eo, fun e he => ⟨(h.sub e he).1, own_stayC (h.sub e he).2 fun k o e2 eo => hk k o ((h.sub e he).2.lt k e2).1 eo⟩⟩
theorem PoIn.base {lo lo' : Nat} {w : World} {v : Value} {es : List Po} (h : PoIn lo w v es) (hl : lo' ≤ lo) : PoIn lo' w v es := ⟨own_base9 h.row hl, fun e he => ⟨(h.sub e he).1, own_base9 (h.sub e he).2 hl⟩⟩
def poN (s : Bx) (no : Int) : PT := match atNo s.ps no with
  | none => (no, [], 0, 0)
  | some q => (no, q.nts, q.tr, q.nx)
def tstN (s : Bx) (f : Pst → Bool) (no : Int) : Bool := match atNo s.ps no with
  | none => false
  | some q => f q
theorem strict_oneT : ∀ (l m : List PT), (∀ x, x ∈ l ↔ x ∈ m) → l.Pairwise (fun x y => x.1 < y.1) → m.Pairwise (fun x y => x.1 < y.1) → l = m
  | [], m, h, _, _ => by
    cases m with
    | nil => rfl
    | cons y m => exact absurd ((h y).2 (by simp)) (by simp)
  | x :: l, m, h, hl, hm => by
    cases m with
    | nil => exact absurd ((h x).1 (by simp)) (by simp)
    | cons y m =>
      rw [List.pairwise_cons] at hl hm
      have e : x = y := by
        rcases List.mem_cons.1 ((h x).1 (by simp)) with e | e
        · exact e
        · rcases List.mem_cons.1 ((h y).2 (by simp)) with e2 | e2
          · exact e2.symm
          · have := hm.1 x e; have := hl.1 y e2; omega
      subst e
      congr 1
      refine strict_oneT l m (fun z => ?_) hl.2 hm.2
      constructor
      · intro hz
        rcases List.mem_cons.1 ((h z).1 (List.mem_cons_of_mem _ hz)) with e | e
        · subst e; have := hl.1 z hz; omega
        · exact e
      · intro hz
        rcases List.mem_cons.1 ((h z).2 (List.mem_cons_of_mem _ hz)) with e | e
        · subst e; have := hm.1 z hz; omega
        · exact e
theorem sel_up (f : Pst → Bool) (ps : List Pst) : (selP f ps).Pairwise fun x y => x.1 < y.1 := by
  have key : ∀ (l : List Pst) (k : Nat), (((l.zipIdx k).filter fun x => f x.1).map fun x => (x.2, x.1)).Pairwise (fun x y => x.1 < y.1) ∧ ∀ x ∈ ((l.zipIdx k).filter fun x => f x.1).map fun x => (x.2, x.1), k ≤ x.1 := by
    intro l
    induction l with
    | nil => intro k; simp
    | cons x l ih =>
      intro k
      obtain ⟨h1, h2⟩ := ih (k + 1)
      rw [List.zipIdx_cons, List.filter_cons]
      by_cases h : f x = true
      · rw [if_pos h, List.map_cons, List.pairwise_cons]
        refine ⟨⟨fun y hy => by have := h2 y hy; show k < y.1; omega, h1⟩, fun y hy => ?_⟩
        rcases List.mem_cons.1 hy with rfl | hy
        · exact Nat.le_refl _
        · have := h2 y hy; omega
      · rw [if_neg h]
        exact ⟨h1, fun y hy => by have := h2 y hy; omega⟩
  exact (key ps 0).1
theorem sel_iff {f : Pst → Bool} {ps : List Pst} {k : Nat} {p : Pst} : (k, p) ∈ selP f ps ↔ ps[k]? = some p ∧ f p = true := by
  refine ⟨sel_mem, fun ⟨h1, h2⟩ => ?_⟩
  unfold selP
  rw [List.mem_map]
  exact ⟨(p, k), List.mem_filter.2 ⟨List.mem_zipIdx_iff_getElem?.2 h1, h2⟩, rfl⟩
theorem sel_len (f : Pst → Bool) (ps : List Pst) : (selP f ps).length = ps.countP f := by
  have key : ∀ (l : List Pst) (k : Nat), (((l.zipIdx k).filter fun x => f x.1).map fun x => (x.2, x.1)).length = l.countP f := by
    intro l
    induction l with
    | nil => intro k; rfl
    | cons x l ih =>
      intro k
      have := ih (k + 1)
      rw [List.zipIdx_cons, List.filter_cons, List.countP_cons]
      by_cases h : f x = true
      · simp [h] at this ⊢; omega
      · simp [h] at this ⊢; omega
  exact key ps 0
theorem poL_up (f : Pst → Bool) (ps : List Pst) : (poL (selP f ps)).Pairwise fun x y => x.1 < y.1 := by
  unfold poL
  rw [List.pairwise_map]
  exact (sel_up f ps).imp fun {a b} h => by show (a.1 : Int) + 1 < (b.1 : Int) + 1; omega
theorem poN_some {s : Bx} {no : Int} {q : Pst} (h : atNo s.ps no = some q) : poN s no = (no, q.nts, q.tr, q.nx) := by unfold poN; rw [h]
theorem tstN_some {s : Bx} {f : Pst → Bool} {no : Int} {q : Pst} (h : atNo s.ps no = some q) : tstN s f no = f q := by unfold tstN; rw [h]
theorem mem_poL {f : Pst → Bool} {s : Bx} {x : PT} : x ∈ poL (selP f s.ps) ↔ ∃ no q, atNo s.ps no = some q ∧ f q = true ∧ x = (no, q.nts, q.tr, q.nx) := by
  unfold poL
  rw [List.mem_map]
  constructor
  · rintro ⟨⟨k, q⟩, h1, rfl⟩
    obtain ⟨h2, h3⟩ := sel_iff.1 h1
    exact ⟨(k : Int) + 1, q, by rw [atNo_nat]; exact h2, h3, rfl⟩
  · rintro ⟨no, q, h1, h2, rfl⟩
    obtain ⟨a, b, c⟩ := atNo_some h1
    exact ⟨((no - 1).toNat, q), sel_iff.2 ⟨b, h2⟩, by show ((((no - 1).toNat : Nat) : Int) + 1, _) = _; rw [show (((no - 1).toNat : Nat) : Int) + 1 = no by omega]⟩
section
variable {B p mb mn : Nat} {P : Pln} {s : Bx} {D : DataW Unit} {is : List Int} {gk : Int → Nat} {gv : Int → Value} {lv : Value} {w w' : World}
/-- What came out of the map, sorted, is what the list has. -/
theorem posts_of {f : Pst → Bool} (hmem : ∀ no, no ∈ is ↔ ∃ q, atNo s.ps no = some q ∧ q.op = true) (hf : ∀ q, f q = true → q.op = true) {ts : List Int} {es es7 : List Po} (hp : ts.Perm is) (he : es.map Po.of = (ts.filter (tstN s f)).map (poN s)) (h7 : es7.Perm es)
    (hs : es7.Pairwise fun x y => x.no < y.no) : es7.map Po.of = poL (selP f s.ps) := by
  refine strict_oneT _ _ (fun x => ?_) ?_ (poL_up f s.ps)
  · rw [(h7.map Po.of).mem_iff, he, mem_poL, List.mem_map]
    constructor
    · rintro ⟨no, hno, rfl⟩
      rw [List.mem_filter] at hno
      obtain ⟨q, hq, _⟩ := (hmem no).1 (hp.mem_iff.1 hno.1)
      rw [tstN_some hq] at hno
      exact ⟨no, q, hq, hno.2, poN_some hq⟩
    · rintro ⟨no, q, hq, hfq, rfl⟩
      exact ⟨no, List.mem_filter.2 ⟨hp.mem_iff.2 ((hmem no).2 ⟨q, hq, hf q hfq⟩), by rw [tstN_some hq]; exact hfq⟩, poN_some hq⟩
  · rw [List.pairwise_map]
    exact hs.imp fun {a b} h => h
theorem BP.len (h : BP B P p mb s mn D is gk gv lv w) : is.length = opens s.ps := by
  have hn : ((poL (selP Pst.op s.ps)).map Prod.fst).Nodup := by
    rw [List.nodup_iff_pairwise_ne, List.pairwise_map]
    exact (poL_up Pst.op s.ps).imp fun {a b} h e => by omega
  have hp : is.Perm ((poL (selP Pst.op s.ps)).map Prod.fst) := by
    rw [List.perm_ext_iff_of_nodup h.nd hn]
    intro no
    rw [h.mem, List.mem_map]
    constructor
    · rintro ⟨q, hq, ho⟩; exact ⟨_, mem_poL.2 ⟨no, q, hq, ho, rfl⟩, rfl⟩
    · rintro ⟨x, hx, rfl⟩
      obtain ⟨no, q, hq, ho, rfl⟩ := mem_poL.1 hx
      exact ⟨q, hq, ho⟩
  rw [hp.length_eq, List.length_map]
  unfold poL
  rw [List.length_map, sel_len]
  rfl
end
end Go.Proofs.YtnkccilgbhogbaaDoor
