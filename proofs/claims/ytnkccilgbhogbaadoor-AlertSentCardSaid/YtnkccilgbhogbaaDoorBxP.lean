/- A box of posts in memory. -/
import Derived.Test.YtnkccilgbhogbaaDoorBxS
import Derived.Test.YtnkccilgbhogbaaDoorBkM
import Derived.Test.YtnkccilgbhogbaaDoorKeepP
import Derived.Test.YtnkccilgbhogbaaDoorOwnMore
import Derived.Test.YtnkccilgbhogbaaDoorRowSet
namespace Go.Proofs.YtnkccilgbhogbaaDoor
open Go.RowKit Go.Maps
open Bk (ptE ptV MapK Got ptE_mk wpList_lookup_some wpList_lookup_none)
set_option linter.unusedVariables false
set_option linter.unusedSimpArgs false
theorem ty_eq {a b : Array Value} {s t : TypeId} {x y : Nat × Nat} (h : some (Obj.cells a s x) = some (Obj.cells b t y)) : s = t := by
  injection h with h
  injection h
theorem row_blkC {w : World} {base sz n k : Nat} {e : TypeId} {v : Value} {xs : List Value} (h : w.ownsRow base e sz v n xs) (hk : v.ownBlock = some k) : ∃ cur, w.heap[k]? = some (.cells cur e (0, 0)) := by
  rcases h.2 with h1 | ⟨g, cap, cur, q1, q2, q3, q4⟩
  · rw [h1.1] at hk; cases hk
  · rw [q1] at hk
    obtain rfl : g = k := Option.some.inj hk
    exact ⟨cur, q3⟩
theorem own_stayC {w w' : World} {base sz n : Nat} {e : TypeId} {v : Value} {xs : List Value} (ho : w.ownsRow base e sz v n xs) (h : ∀ k o, v.ownBlock = some k → w.heap[k]? = some o → w'.heap[k]? = some o) : w'.ownsRow base e sz v n xs := by
  refine ⟨ho.1, ?_⟩
  rcases ho.2 with h1 | ⟨g, cap, cur, q1, q2, q3, q4⟩
  · exact .inl h1
  · exact .inr ⟨g, cap, cur, q1, q2, h g _ (by rw [q1]; rfl) q3, q4⟩
theorem map_stayC {w w' : World} {k : TypeId} {b n : Nat} {D : DataW Unit} (h : w.ownsMap Tryd.prog k ptE b n D) (hk : ∀ o, w.heap[b]? = some o → w'.heap[b]? = some o) : w'.ownsMap Tryd.prog k ptE b n D := by
  obtain ⟨es, clock, hb, rest⟩ := h
  exact ⟨es, clock, hk _ hb, rest⟩
/-- A key is taken out. -/
theorem MapK.drop {enc : Int → Lit} {ks : List Int} {bk : Int → Nat} {D : DataW Unit} (h : MapK enc ks bk D) (hinj : ∀ x y, enc x = enc y → x = y) (ht : Tidy D) {x : Int} (hx : x ∈ ks) (hn : ks.Nodup) : MapK enc (ks.erase x) bk (D.del (enc x)) := by
  have hmem : ∀ y, y ∈ ks.erase x ↔ y ≠ x ∧ y ∈ ks := fun y => hn.mem_erase_iff
  refine ⟨h.map.del _, fun y hy z => ?_, fun y hy z => ?_, fun y => ?_, fun kl hkl => ?_, ?_⟩
  · obtain ⟨h1, h2⟩ := (hmem y).1 hy
    rw [atKey_del_other (fun e => h1 (hinj _ _ e))]
    exact h.in_ y h2 z
  · by_cases e : y = x
    · subst e; exact atKey_del_same z
    · rw [atKey_del_other (fun e2 => e (hinj _ _ e2))]
      exact h.out y (fun e2 => hy ((hmem y).2 ⟨e, e2⟩)) z
  · by_cases e : y = x
    · subst e
      rw [has_del_same]
      exact ⟨fun e => (by cases e), fun e => absurd rfl ((hmem y).1 e).1⟩
    · rw [has_del_other (fun e2 => e (hinj _ _ e2)), h.has y, hmem]
      exact ⟨fun e2 => ⟨e, e2⟩, fun e2 => e2.2⟩
  · by_cases e : kl = enc x
    · subst e; rw [has_del_same] at hkl; cases hkl
    · rw [has_del_other e] at hkl
      obtain ⟨y, hy, rfl⟩ := h.all kl hkl
      exact ⟨y, (hmem y).2 ⟨fun e2 => e (by rw [e2]), hy⟩, rfl⟩
  · have h1 := size_del (k := enc x) ht
    rw [(h.has x).2 hx, h.sz, if_pos rfl] at h1
    rw [List.length_erase_of_mem hx]
    omega
theorem MapK.other {enc : Int → Lit} {ks : List Int} {bk bk' : Int → Nat} {D : DataW Unit} (h : MapK enc ks bk D) (he : ∀ x ∈ ks, bk' x = bk x) : MapK enc ks bk' D :=
  ⟨h.map, fun x hx z => by rw [he x hx]; exact h.in_ x hx z, h.out, h.has, h.all, h.sz⟩
def upd {α : Type} (f : Int → α) (i : Int) (x : α) (j : Int) : α := if j = i then x else f j
theorem upd_same {α : Type} (f : Int → α) (i : Int) (x : α) : upd f i x i = x := if_pos rfl
theorem upd_other {α : Type} (f : Int → α) {i j : Int} (x : α) (h : j ≠ i) : upd f i x j = f j := if_neg h
def boxA (P : Pln) (s : Bx) (mb : Nat) (lv : Value) : Array Value := #[.int .i64 (P.mo : Int), .int .i64 P.wa, .int .i64 P.ag, .int .i64 P.tr, .map (some mb), .int .i64 (gatI s.ps), lv, .int .i64 (s.ps.length : Int), .int .i64 s.put, .int .i64 s.due]
def pstA (no : Int) (v : Value) (p : Pst) : Array Value := #[.int .i64 no, v, .int .i64 p.tr, .int .i64 p.nx]
/-- A lost post as the box's row has it. -/
def lostC (ps : List Pst) (gv : Int → Value) (k : Nat) : List Value := match ps[k]? with
  | none => [.int .i64 0, .slice none 0 0, .int .i64 0, .int .i64 0]
  | some p => [.int .i64 ((k : Int) + 1), gv ((k : Int) + 1), .int .i64 p.tr, .int .i64 p.nx]
/-- The box s lies in w: its own block p, the map mb, the objects gk, the rows of notices gv, the row of lost posts lv. -/
structure BP (B : Nat) (P : Pln) (p mb : Nat) (s : Bx) (mn : Nat) (D : DataW Unit) (is : List Int) (gk : Int → Nat) (gv : Int → Value) (lv : Value) (w : World) : Prop where
  box : w.heap[p]? = some (.cells (boxA P s mb lv) 57 (0, 0))
  map : w.ownsMap Tryd.prog 3 ptE mb mn D
  mp : MapK (Lit.int .i64) is gk D
  nd : is.Nodup
  mem : ∀ no, no ∈ is ↔ ∃ q, atNo s.ps no = some q ∧ q.op = true
  cell : ∀ no q, no ∈ is → atNo s.ps no = some q → w.heap[gk no]? = some (.cells (pstA no (gv no) q) 41 (0, 0))
  row : ∀ no q, atNo s.ps no = some q → q.gone = false → w.ownsRow B 51 4 (gv no) q.nts.length (q.nts.flatMap Nt.cs)
  inj : ∀ a b, a ∈ is → b ∈ is → gk a = gk b → a = b
  apart : ∀ a b qa qb, atNo s.ps a = some qa → atNo s.ps b = some qb → qa.gone = false → qb.gone = false → a ≠ b → (gv a).ownBlock = none ∨ (gv a).ownBlock ≠ (gv b).ownBlock
  lrow : w.ownsRow B 41 4 lv s.lo.length (s.lo.flatMap (lostC s.ps gv))
  lap : ∀ no, no ∈ is → lv.ownBlock ≠ some (gk no)
  lp : B ≤ p
  lm : B ≤ mb
  lk : ∀ no, no ∈ is → B ≤ gk no
/-- The box's blocks. -/
def FB (p mb : Nat) (s : Bx) (is : List Int) (gk : Int → Nat) (gv : Int → Value) (lv : Value) (k : Nat) : Prop := k = p ∨ k = mb ∨ (∃ no ∈ is, k = gk no) ∨ (∃ no q, atNo s.ps no = some q ∧ q.gone = false ∧ (gv no).ownBlock = some k) ∨ lv.ownBlock = some k
section
variable {B p mb mn : Nat} {P : Pln} {s : Bx} {D : DataW Unit} {is : List Int} {gk : Int → Nat} {gv : Int → Value} {lv : Value} {w w' : World}
theorem BP.keep (h : BP B P p mb s mn D is gk gv lv w) (hk : ∀ k o, FB p mb s is gk gv lv k → w.heap[k]? = some o → w'.heap[k]? = some o) : BP B P p mb s mn D is gk gv lv w' :=
  ⟨hk _ _ (.inl rfl) h.box, map_stayC h.map fun o => hk mb o (.inr (.inl rfl)), h.mp, h.nd, h.mem, fun no q hi hq => hk _ _ (.inr (.inr (.inl ⟨no, hi, rfl⟩))) (h.cell no q hi hq),
    fun no q hq hg => own_stayC (h.row no q hq hg) fun k o e => hk k o (.inr (.inr (.inr (.inl ⟨no, q, hq, hg, e⟩)))), h.inj, h.apart, own_stayC h.lrow fun k o e => hk k o (.inr (.inr (.inr (.inr e)))), h.lap, h.lp, h.lm, h.lk⟩
theorem BP.below (h : BP B P p mb s mn D is gk gv lv w) (hb : Below w.heap.size w w') : BP B P p mb s mn D is gk gv lv w' := h.keep fun k o _ e => block_below e hb
theorem BP.lt (h : BP B P p mb s mn D is gk gv lv w) {k : Nat} (hk : FB p mb s is gk gv lv k) : k < w.heap.size := by
  rcases hk with rfl | rfl | ⟨no, hi, rfl⟩ | ⟨no, q, hq, hg, e⟩ | e
  · exact lt_of_block h.box
  · exact h.map.lt
  · obtain ⟨q, hq, _⟩ := (h.mem no).1 hi
    exact lt_of_block (h.cell no q hi hq)
  · exact ((h.row no q hq hg).lt k e).2
  · exact (h.lrow.lt k e).2
theorem BP.ge (h : BP B P p mb s mn D is gk gv lv w) {k : Nat} (hk : FB p mb s is gk gv lv k) : B ≤ k := by
  rcases hk with rfl | rfl | ⟨no, hi, rfl⟩ | ⟨no, q, hq, hg, e⟩ | e
  · exact h.lp
  · exact h.lm
  · exact h.lk no hi
  · exact ((h.row no q hq hg).lt k e).1
  · exact (h.lrow.lt k e).1
theorem BP.isMap (h : BP B P p mb s mn D is gk gv lv w) : ∃ es c, w.heap[mb]? = some (.map es c) := by
  obtain ⟨es, clock, hb, _⟩ := h.map
  exact ⟨es, clock, hb⟩
/-- The box's own block is none of the others. -/
theorem BP.pne (h : BP B P p mb s mn D is gk gv lv w) : p ≠ mb ∧ (∀ no ∈ is, p ≠ gk no) ∧ (∀ no q, atNo s.ps no = some q → q.gone = false → (gv no).ownBlock ≠ some p) ∧ lv.ownBlock ≠ some p := by
  obtain ⟨es, c, hm⟩ := h.isMap
  refine ⟨fun e => ?_, fun no hi e => ?_, fun no q hq hg e => ?_, fun e => ?_⟩
  · have := h.box; rw [e, hm] at this; cases this
  · obtain ⟨q, hq, _⟩ := (h.mem no).1 hi
    have h1 := h.cell no q hi hq
    rw [← e, h.box] at h1; exact absurd (ty_eq h1) (by decide)
  · exact own_other' (h.row no q hq hg) h.box (by decide) e
  · exact own_other' h.lrow h.box (by decide) e
theorem BP.mne (h : BP B P p mb s mn D is gk gv lv w) : (∀ no ∈ is, mb ≠ gk no) ∧ (∀ no q, atNo s.ps no = some q → q.gone = false → (gv no).ownBlock ≠ some mb) ∧ lv.ownBlock ≠ some mb := by
  obtain ⟨es, c, hm⟩ := h.isMap
  refine ⟨fun no hi e => ?_, fun no q hq hg e => ?_, fun e => ?_⟩
  · obtain ⟨q, hq, _⟩ := (h.mem no).1 hi
    have h1 := h.cell no q hi hq
    rw [← e, hm] at h1; cases h1
  · obtain ⟨cur, h1⟩ := row_blkC (h.row no q hq hg) e
    rw [hm] at h1; cases h1
  · obtain ⟨cur, h1⟩ := row_blkC h.lrow e
    rw [hm] at h1; cases h1
theorem BP.rne (h : BP B P p mb s mn D is gk gv lv w) {a : Int} {q : Pst} (hq : atNo s.ps a = some q) (hg : q.gone = false) : (∀ no ∈ is, (gv a).ownBlock ≠ some (gk no)) ∧ ((gv a).ownBlock = none ∨ (gv a).ownBlock ≠ lv.ownBlock) := by
  refine ⟨fun no hi => ?_, ?_⟩
  · obtain ⟨q', hq', _⟩ := (h.mem no).1 hi
    exact own_other' (h.row a q hq hg) (h.cell no q' hi hq') (by decide)
  · cases e : (gv a).ownBlock with
    | none => exact .inl rfl
    | some k =>
      refine .inr fun e2 => ?_
      obtain ⟨c1, h1⟩ := row_blkC (h.row a q hq hg) e
      obtain ⟨c2, h2⟩ := row_blkC h.lrow e2.symm
      rw [h1] at h2; exact absurd (ty_eq h2) (by decide)
end
end Go.Proofs.YtnkccilgbhogbaaDoor
