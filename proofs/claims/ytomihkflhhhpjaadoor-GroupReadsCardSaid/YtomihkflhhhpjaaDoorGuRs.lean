/- What the program reads of rules: the box that readRule reads into. -/
import Derived.Test.YtomihkflhhhpjaaDoorGuAc
import Derived.Maps.AppendAt
namespace Go.Proofs.YtomihkflhhhpjaaDoor
open Go.RowKit
set_option linter.unusedVariables false
set_option linter.unusedSimpArgs false
/-- readRule's memory: the text that is left in q, the result's box rz, the rule's box b with cells c1, c2, two rows of its own. -/
structure RS (q rz b : Nat) (w0 : World) (t : ByteArray) (c1 c2 v1 : Value) (ms : List Mt) (v2 : Value) (ac : List Ac) (w : World) : Prop where
  qb : QB q t w
  rz : w.heap[rz]? = some (.cells #[.slice none 0 0, .slice none 0 0] 44 (0, 0))
  bb : w.heap[b]? = some (.cells #[c1, c2] 44 (0, 0))
  r1 : w.ownsRow w0.heap.size 53 3 v1 ms.length (ms.flatMap Mt.cs)
  r2 : w.ownsRow w0.heap.size 56 3 v2 ac.length (ac.flatMap Ac.cs)
  be : Below w0.heap.size w0 w
section
variable {q rz b : Nat} {w0 w w' : World} {t : ByteArray} {c1 c2 v1 v2 : Value} {ms : List Mt} {ac : List Ac}
theorem RS.below (h : RS q rz b w0 t c1 c2 v1 ms v2 ac w) (hb : Below w.heap.size w w') : RS q rz b w0 t c1 c2 v1 ms v2 ac w' :=
  ⟨h.qb.below hb h.qb.cell.2.2, block_below h.rz hb, block_below h.bb hb, own_below h.r1 hb, own_below h.r2 hb, h.be.trans (hb.mono h.be.size)⟩
theorem own_but {base sz n : Nat} {e : TypeId} {v : Value} {xs : List Value} {t : ByteArray} (h : w.ownsRow base e sz v n xs) (hb : ButAt q w w') (hq : QB q t w) (hne : e ≠ 9) : w'.ownsRow base e sz v n xs := by
  have h9 := own_other' h hq hne
  refine ⟨h.1, ?_⟩
  rcases h.2 with h0 | ⟨g, cap, cur, h1, h2, h3, h4⟩
  · exact .inl h0
  · refine .inr ⟨g, cap, cur, h1, h2, hb.keep _ _ h3 (fun e => h9 ?_), h4⟩
    rw [h1, e]; rfl
theorem RS.but (h : RS q rz b w0 t c1 c2 v1 ms v2 ac w) (hb : ButAt q w w') {t' : ByteArray} (hq : QB q t' w') (hB : w0.heap.size ≤ q) (h1 : rz ≠ q) (h2 : b ≠ q) : RS q rz b w0 t' c1 c2 v1 ms v2 ac w' :=
  ⟨hq, hb.keep _ _ h.rz h1, hb.keep _ _ h.bb h2, own_but h.r1 hb h.qb (by decide), own_but h.r2 hb h.qb (by decide), h.be.trans (hb.be.mono hB)⟩
theorem RS.set1 (h : RS q rz b w0 t c1 c2 v1 ms v2 ac w) (hB : w0.heap.size ≤ b) (h1 : q ≠ b) (h2 : rz ≠ b) (u : Value) : RS q rz b w0 t u c2 v1 ms v2 ac (w.setCell ⟨b, 0, none⟩ u) :=
  ⟨block_set_other h.qb ⟨b, 0, none⟩ _ h1, block_set_other h.rz ⟨b, 0, none⟩ _ h2, block_set h.bb u, ownsRow_setCell_other h.r1 (a := ⟨b, 0, none⟩) (own_other' h.r1 h.bb (by decide)) _, ownsRow_setCell_other h.r2 (a := ⟨b, 0, none⟩) (own_other' h.r2 h.bb (by decide)) _, below_set h.be hB u⟩
theorem RS.set2 (h : RS q rz b w0 t c1 c2 v1 ms v2 ac w) (hB : w0.heap.size ≤ b) (h1 : q ≠ b) (h2 : rz ≠ b) (u : Value) : RS q rz b w0 t c1 u v1 ms v2 ac (w.setCell ⟨b, 1, none⟩ u) :=
  ⟨block_set_other h.qb ⟨b, 1, none⟩ _ h1, block_set_other h.rz ⟨b, 1, none⟩ _ h2, block_set h.bb u, ownsRow_setCell_other h.r1 (a := ⟨b, 1, none⟩) (own_other' h.r1 h.bb (by decide)) _, ownsRow_setCell_other h.r2 (a := ⟨b, 1, none⟩) (own_other' h.r2 h.bb (by decide)) _, below_set h.be hB u⟩
theorem own_apart {e1 e2 : TypeId} {b1 b2 s1 s2 n1 n2 : Nat} {xs1 xs2 : List Value} (h1 : w.ownsRow b1 e1 s1 v1 n1 xs1) (h2 : w.ownsRow b2 e2 s2 v2 n2 xs2) (hne : e1 ≠ e2) : v2.ownBlock = none ∨ v2.ownBlock ≠ v1.ownBlock := by
  rcases h2.2 with ⟨rfl, _⟩ | ⟨g, cap, cur, rfl, _, hh, _⟩
  · exact .inl rfl
  · right
    intro e
    exact own_other' h1 hh hne e.symm
theorem grown_at {r : Option Nat} {b : Nat} {o : Obj} (hg : w.grownBy w' r) (h : w.heap[b]? = some o) (hne : r ≠ some b) : w'.heap[b]? = some o :=
  (hg.block b (lt_of_block h) (fun e => hne e.symm)).trans h
theorem RS.grow1 (h : RS q rz b w0 t c1 c2 v1 ms v2 ac w) (hg : w.grownBy w' v1.ownBlock) {v1' : Value} {m : Mt} (ho : w'.ownsRow w0.heap.size 53 3 v1' (ms.length + 1) (ms.flatMap Mt.cs ++ m.cs)) : RS q rz b w0 t c1 c2 v1' (ms ++ [m]) v2 ac w' :=
  ⟨grown_at hg h.qb (own_other' h.r1 h.qb (by decide)), grown_at hg h.rz (own_other' h.r1 h.rz (by decide)), grown_at hg h.bb (own_other' h.r1 h.bb (by decide)),
    by rw [List.flatMap_append, List.length_append]; simpa using ho, h.r2.kept hg (own_apart h.r1 h.r2 (by decide)), h.be.grown hg h.be.size (fun k hk => (h.r1.lt k hk).1)⟩
theorem RS.grow2 (h : RS q rz b w0 t c1 c2 v1 ms v2 ac w) (hg : w.grownBy w' v2.ownBlock) {v2' : Value} {m : Ac} (ho : w'.ownsRow w0.heap.size 56 3 v2' (ac.length + 1) (ac.flatMap Ac.cs ++ m.cs)) : RS q rz b w0 t c1 c2 v1 ms v2' (ac ++ [m]) w' :=
  ⟨grown_at hg h.qb (own_other' h.r2 h.qb (by decide)), grown_at hg h.rz (own_other' h.r2 h.rz (by decide)), grown_at hg h.bb (own_other' h.r2 h.bb (by decide)),
    h.r1.kept hg (own_apart h.r2 h.r1 (by decide)), by rw [List.flatMap_append, List.length_append]; simpa using ho, h.be.grown hg h.be.size (fun k hk => (h.r2.lt k hk).1)⟩
/-- The answer is laid out. -/
theorem RS.ret (h : RS q rz b w0 t c1 c2 v1 ms v2 ac w) (hB : w0.heap.size ≤ rz) (u1 u2 : Value) {wf : World} (hwf : (w.setCell ⟨rz, 0, none⟩ u1).setCell ⟨rz, 1, none⟩ u2 = wf) :
    Below w0.heap.size w0 wf ∧ wf.ownsRow w0.heap.size 53 3 v1 ms.length (ms.flatMap Mt.cs) ∧ wf.ownsRow w0.heap.size 56 3 v2 ac.length (ac.flatMap Ac.cs) ∧ wf.heap[rz]? = some (.cells #[u1, u2] 44 (0, 0)) := by
  subst hwf
  have e1 := own_other' h.r1 h.rz (by decide)
  have e2 := own_other' h.r2 h.rz (by decide)
  exact ⟨below_set (below_set h.be hB _) hB _, ownsRow_setCell_other (ownsRow_setCell_other h.r1 (a := ⟨rz, 0, none⟩) e1 _) (a := ⟨rz, 1, none⟩) e1 _, ownsRow_setCell_other (ownsRow_setCell_other h.r2 (a := ⟨rz, 0, none⟩) e2 _) (a := ⟨rz, 1, none⟩) e2 _, block_set (block_set h.rz _) _⟩
end
/-- The conditions of a rule, up to the arrow. -/
def rdMs : Nat → List UInt8 → List Mt → Option (List Mt × List UInt8)
  | 0, _, _ => none
  | f + 1, l, acc => match cutP [45, 62] l with
    | some r => some (acc, r)
    | none => match rdM l with
      | none => none
      | some (m, r) => match cutP [32] r with
        | none => none
        | some r' => rdMs f r' (acc ++ [m])
/-- What a rule does. -/
def rdAs : Nat → List UInt8 → List Ac → Option (List Ac)
  | 0, _, _ => none
  | f + 1, l, acc => if l = [] then some acc else match cutP [32] l with
    | none => none
    | some r => match rdA r with
      | none => none
      | some (a, r') => rdAs f r' (acc ++ [a])
def rdRule (l : List UInt8) : Option (List Mt × List Ac) := match rdMs (l.length + 1) l [] with
  | none => none
  | some (ms, r) => (rdAs (r.length + 1) r []).map fun ac => (ms, ac)
/-- What readRule answers. -/
def RRl (l : List UInt8) (e : Ending) (w w' : World) : Prop := Below w.heap.size w w' ∧
  ((rdRule l = none ∧ ∃ (A1 : Option Addr) (n1 c1 : Nat) (A2 : Option Addr) (n2 c2 : Nat), e = .returned (.tuple #[.agg #[.slice A1 n1 c1, .slice A2 n2 c2], .bool false])) ∨
    ∃ ms ac v1 v2, rdRule l = some (ms, ac) ∧ e = .returned (.tuple #[.agg #[v1, v2], .bool true]) ∧ w'.ownsRow w.heap.size 53 3 v1 ms.length (ms.flatMap Mt.cs) ∧ w'.ownsRow w.heap.size 56 3 v2 ac.length (ac.flatMap Ac.cs) ∧
      ms.length ≤ l.length ∧ ac.length ≤ l.length ∧ (∀ m ∈ ms, m.glob.size ≤ l.length) ∧ (∀ a ∈ ac, a.text.size ≤ l.length))
end Go.Proofs.YtomihkflhhhpjaaDoor
