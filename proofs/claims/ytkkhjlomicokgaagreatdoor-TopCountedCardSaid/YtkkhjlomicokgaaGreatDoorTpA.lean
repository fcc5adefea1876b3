/- Base, Mem, Firsts, Fam, MapB, SlDrop, Own, OwnMore, RowSet, RegChain, OpenSl: texts of one's own, in one file. -/
import Derived.Handy
import Derived.WalkLawsBesides
import Derived.Lib.Hide
import Derived.WalkSpells
import Derived.Laws.OwnMore
import Derived.Deep.Draws
import Derived.RegionTactic
import Derived.BigRegion
import Derived.Deep.QuietTactic
import Derived.BigQuiet
import Derived.Deep.DeepCutAuto
import Derived.Deep.RegionWith
import Derived.Maps.Own
import Derived.Maps.OwnOps
import Derived.Maps.OwnSet
import Derived.Maps.Views
import Derived.Laws.AppendOwn
import Derived.OwnWalk
import Derived.OneCell
import Derived.StillTail
import Derived.OrdersHeld
import Derived.Test.YtkkhjlomicokgaaGreatDoorProg
import Derived.ProofKit
import Derived.Deep.Slices
import Derived.Lib.SmallJoins
/- Small lemmas without a program, used by all texts of this seat. -/
namespace Go.Proofs.YtkkhjlomicokgaaGreatDoor
open Go.RowKit
theorem take_snoc (s : ByteArray) (k : Nat) (h : k < s.size) : s.data.toList.take (k + 1) = s.data.toList.take k ++ [s[k]] := by
  rw [List.take_succ_eq_append_getElem (by simpa using h)]; rfl
theorem take_all (s : ByteArray) (k : Nat) (h : ¬ k < s.size) : s.data.toList.take k = s.data.toList := List.take_of_length_le (by simp; omega)
theorem ret_int {k : IntKind} {a b : Int} (h : a = b) : Ending.returned (.int k a) = .returned (.int k b) := by rw [h]
theorem ret_bool {a b : Bool} (h : a = b) : Ending.returned (.bool a) = .returned (.bool b) := by rw [h]
theorem hide {p : Prop} (h : p) : Hid p := h
/-- A cell that is there stays, and stays writable, behind a new block; a store into it goes beneath that block. -/
theorem cell_keep (w : World) (a : Addr) (o : Obj) (h : (w.cell? a).isSome = true) : (w.alloc o).cell? a = w.cell? a := by
  obtain ⟨u, hu⟩ := Option.isSome_iff_exists.1 h
  exact World.cell?_alloc_lt _ _ _ (World.block_lt_of_cell? w a hu)
theorem frozen_keep (w : World) (a : Addr) (o : Obj) (h : (w.cell? a).isSome = true) : (w.alloc o).frozen? a = w.frozen? a := by
  obtain ⟨u, hu⟩ := Option.isSome_iff_exists.1 h
  exact World.frozen?_alloc_old _ _ _ (Nat.ne_of_lt (World.block_lt_of_cell? w a hu))
theorem setCell_keep (w : World) (n i : Nat) (v : Value) (o : Obj) (h : (w.cell? ⟨n, i, none⟩).isSome = true) : (w.alloc o).setCell ⟨n, i, none⟩ v = (w.setCell ⟨n, i, none⟩ v).alloc o := by
  obtain ⟨u, hu⟩ := Option.isSome_iff_exists.1 h
  exact World.setCell_alloc_past (w := w) _ _ _ _ (World.block_lt_of_cell? w _ hu)
attribute [go_sem] cell_keep frozen_keep setCell_keep
end Go.Proofs.YtkkhjlomicokgaaGreatDoor

/- What a slice in memory reads as: a Lean list, each element laid out in a fixed number of cells. No program. -/
namespace Go.Proofs.YtkkhjlomicokgaaGreatDoor
open Go.RowKit
/-- The slice value with address A and length n reads, in w and below block B, as the list l; element a takes the cells `f a` (sz of them). -/
structure Sl {α : Type} (w : World) (B : Nat) (f : α → List Value) (sz : Nat) (A : Option Addr) (n : Nat) (l : List α) : Prop where
  len : l.length = n
  cells : 0 < n → ∃ b o, A = some ⟨b, o, none⟩ ∧ b < B ∧ ∀ i a, l[i]? = some a → ∀ j v, (f a)[j]? = some v → w.cell? ⟨b, o + i * sz + j, none⟩ = some v
section
variable {α : Type} {w w' : World} {B B' sz n : Nat} {f : α → List Value} {A : Option Addr} {l : List α}
theorem Sl.nil (w : World) (B : Nat) (f : α → List Value) (sz : Nat) (A : Option Addr) : Sl w B f sz A 0 [] := ⟨rfl, fun h => absurd h (by omega)⟩
theorem Sl.below (h : Sl w B f sz A n l) (hb : Below B w w') : Sl w' B f sz A n l := by
  refine ⟨h.len, fun hn => ?_⟩
  obtain ⟨b, o, e, hlt, hc⟩ := h.cells hn
  exact ⟨b, o, e, hlt, fun i a ha j v hv => (hb.cell (p := ⟨b, o + i * sz + j, none⟩) hlt).trans (hc i a ha j v hv)⟩
theorem Sl.more (h : Sl w B f sz A n l) (hB : B ≤ B') : Sl w B' f sz A n l := by
  refine ⟨h.len, fun hn => ?_⟩
  obtain ⟨b, o, e, hlt, hc⟩ := h.cells hn
  exact ⟨b, o, e, by omega, hc⟩
/-- Element k of a list that has one, and where its cells lie. -/
theorem Sl.at_ (h : Sl w B f sz A n l) {k : Nat} (hk : k < n) :
    ∃ b o a, A = some ⟨b, o, none⟩ ∧ b < B ∧ l[k]? = some a ∧ ∀ j v, (f a)[j]? = some v → w.cell? ⟨b, o + k * sz + j, none⟩ = some v := by
  obtain ⟨b, o, e, hlt, hc⟩ := h.cells (by omega)
  have hl : k < l.length := by have := h.len; omega
  exact ⟨b, o, l[k], e, hlt, List.getElem?_eq_getElem hl, hc k _ (List.getElem?_eq_getElem hl)⟩
end
/-- The cells of an integer. -/
def ci (n : Int) : List Value := [.int .i64 n]
/-- The cells of a string. -/
def cs (s : ByteArray) : List Value := [.string s]
theorem take_succ_get {α : Type} {l : List α} {k : Nat} {a : α} (h : l[k]? = some a) : l.take (k + 1) = l.take k ++ [a] := by
  have hk : k < l.length := (List.getElem?_eq_some_iff.1 h).1
  rw [List.take_succ_eq_append_getElem hk]
  congr 1
  rw [List.getElem?_eq_getElem hk] at h
  simpa using h
theorem take_len {α : Type} (l : List α) {k : Nat} (h : l.length ≤ k) : l.take k = l := List.take_of_length_le h
end Go.Proofs.YtkkhjlomicokgaaGreatDoor

/- The first error of a list of things that are looked at one after another. No program. -/
namespace Go.Proofs.YtkkhjlomicokgaaGreatDoor
/-- The first of f 0 .. f (n-1) that is not 0; else 0. -/
def firstErr (f : Nat → Int) : Nat → Int
  | 0 => 0
  | n + 1 => if firstErr f n = 0 then f n else firstErr f n
theorem firstErr_zero {f : Nat → Int} {n : Nat} (h : ∀ j, j < n → f j = 0) : firstErr f n = 0 := by
  induction n with
  | zero => rfl
  | succ n ih => rw [firstErr, if_pos (ih fun j hj => h j (by omega)), h n (by omega)]
theorem firstErr_hit {f : Nat → Int} {n k : Nat} (h : ∀ j, j < k → f j = 0) (hk : k < n) (hne : f k ≠ 0) : firstErr f n = f k := by
  induction n with
  | zero => omega
  | succ n ih =>
    by_cases hkn : k < n
    · have := ih hkn; rw [firstErr, this, if_neg hne]
    · obtain rfl : k = n := by omega
      rw [firstErr, if_pos (firstErr_zero h)]
theorem firstErr_all {f : Nat → Int} {n : Nat} (h : firstErr f n = 0) : ∀ j, j < n → f j = 0 := by
  induction n with
  | zero => intro j hj; omega
  | succ n ih =>
    rw [firstErr] at h
    split at h
    · rename_i h0
      intro j hj
      by_cases hjn : j < n
      · exact ih h0 j hjn
      · obtain rfl : j = n := by omega
        exact h
    · rename_i h0; exact absurd h h0
theorem firstErr_congr {f g : Nat → Int} {n : Nat} (h : ∀ j, j < n → f j = g j) : firstErr f n = firstErr g n := by
  induction n with
  | zero => rfl
  | succ n ih => rw [firstErr, firstErr, ih fun j hj => h j (by omega), h n (by omega)]
end Go.Proofs.YtkkhjlomicokgaaGreatDoor

/- A region that draws its order, whose operations read and whose calls make memory of their own: one walk of the text's order, over all worlds that hold the same listed cells. -/
namespace Go.Proofs.YtkkhjlomicokgaaGreatDoor
open Go.RowKit
/-- The listed cells hold the listed values. -/
def Cells (L : List (Addr × Value)) (w : World) : Prop := ∀ p ∈ L, w.cell? p.1 = some p.2
theorem Cells.nil (w : World) : Cells [] w := fun p hp => by cases hp
theorem Cells.cons {a : Addr} {v : Value} {L : List (Addr × Value)} {w : World} (h : w.cell? a = some v) (hL : Cells L w) : Cells ((a, v) :: L) w := fun p hp => by
  rcases List.mem_cons.1 hp with rfl | hp
  · exact h
  · exact hL p hp
theorem Cells.below {L : List (Addr × Value)} {w w' : World} (h : Cells L w) (hb : Below w.heap.size w w') : Cells L w' := fun p hp =>
  (hb.cell (World.block_lt_of_cell? w p.1 (h p hp))).trans (h p hp)
theorem Cells.head {a : Addr} {v : Value} {L : List (Addr × Value)} {w : World} (h : Cells ((a, v) :: L) w) : w.cell? a = some v := h (a, v) (List.mem_cons_self ..)
theorem Cells.tail {a : Addr} {v : Value} {L : List (Addr × Value)} {w : World} (h : Cells ((a, v) :: L) w) : Cells L w := fun p hp => h p (List.mem_cons_of_mem _ hp)
theorem below_drewN {B : Nat} {a w : World} (h : Below B a w) (n : Nat) : Below B a (w.drewN n) := ⟨h.os, h.tape, h.output, h.size, h.block⟩
/-- The worlds that hold the listed cells and are, below w0's end, as w0 was: a family that calls do not leave. -/
theorem fam (L : List (Addr × Value)) (w0 w : World) (hL : Cells L w) (hB : Below w0.heap.size w0 w) : ∃ (I : Type) (F : I → World),
    (∃ i, w.drew = F i) ∧ (∀ i, Cells L (F i)) ∧ (∀ i, Below w0.heap.size w0 (F i)) ∧ ∀ i w', Below (F i).heap.size (F i) w' → ∃ j, w' = F j :=
  ⟨{ w' : World // Cells L w' ∧ Below w0.heap.size w0 w' }, Subtype.val, ⟨⟨w.drew, hL, hB.drew⟩, rfl⟩, fun i => i.2.1, fun i => i.2.2,
    fun i w' h => ⟨⟨w', i.2.1.below h, i.2.2.trans (h.mono i.2.2.size)⟩, rfl⟩⟩
theorem wp_region_fam {P : Program} {I : Type} (F : I → World) {id : Nat} {Q : Exit → Act → World → Prop} {a : Act} {w : World} {l : List Oper} (hi : ∃ i, w.drew = F i)
    (hm : P.follows .mixedOrders = true) (hB : Region.lexB .any l.toArray = true)
    (h : wpQuiet P l.toArray (fun w' => ∃ i, w' = F i) (fun a' => ∀ w', (∃ i, w' = F i) → Q .normal a' w') l a) : (Code.region id l.toArray true).wp P Q a w :=
  wp_region_quiet (C := fun w' => ∃ i, w' = F i) hm hB hi (by simpa using h)
end Go.Proofs.YtkkhjlomicokgaaGreatDoor

/- A set of strings kept as a map[string]bool that the call makes: look-up and store. No program. -/
namespace Go.Proofs.YtkkhjlomicokgaaGreatDoor
open Go.RowKit Go.Maps
/-- The map that has the keys ks, each with the value true. -/
def seenD (ks : List (List UInt8)) : DataW Unit := setOf (.lit (.bool true)) (ks.map fun s => .string s)
theorem seenD_snoc (ks : List (List UInt8)) (s : List UInt8) : seenD (ks ++ [s]) = (seenD ks).put (.string s) (.lit (.bool true)) := by
  unfold seenD; rw [List.map_append, List.map_singleton, setOf_snoc]
theorem isMap_seenD (ks : List (List UInt8)) : IsMap (seenD ks) :=
  (tidy_setOf _ _ (by intro x hx; obtain ⟨s, _, rfl⟩ := List.mem_map.1 hx; trivial)).isMap
theorem snoc_ind {α : Type} {P : List α → Prop} (h0 : P []) (h1 : ∀ l x, P l → P (l ++ [x])) (l : List α) : P l := by
  rw [← List.reverse_reverse l]
  generalize l.reverse = m
  induction m with
  | nil => exact h0
  | cons x m ih => rw [List.reverse_cons]; exact h1 _ _ ih
theorem seenD_at (ks : List (List UInt8)) (s : List UInt8) : (seenD ks).atKey (.string s) (.lit (.bool false)) = .lit (.bool (ks.contains s)) := by
  refine snoc_ind (P := fun ks => (seenD ks).atKey (.string s) (.lit (.bool false)) = .lit (.bool (ks.contains s))) rfl (fun l x ih => ?_) ks
  rw [seenD_snoc]
  by_cases h : s = x
  · subst h
    rw [atKey_put_same (isMap_seenD l) (show WideAt.IsKeyLit (Lit.string s) from trivial)]
    simp
  · rw [atKey_put_other (by intro e; injection e with e; exact h e), ih]
    simp [h]
theorem plainElem_bool_inv {H : Type} {P : Program} {e : TypeId} (he : P.underlying e = some .bool) {v : Value} {z : DataW H × List MemPlace} (h : plainElem P e v = some z) : ∃ x, v = .bool x ∧ z = (.lit (.bool x), []) := by
  unfold plainElem at h
  rw [he] at h
  cases v <;> simp at h
  exact ⟨_, rfl, h.symm⟩
/-- 'seen[x]' in such a map. -/
theorem wpList_lookup_seen {P : Program} (w : World) {ops : Array Oper} {rest : List Oper} {o : Oper} {a : Act} {Q : Exit → Act → World → Prop}
    (hg : o.guard = none) (m x : Operand) (t : TypeId) (hop : o.op = Op.lookup t m x false)
    (k e : TypeId) (K : Keyed P k) (ht : P.underlying t = some (.map k e)) (he : P.underlying e = some .bool) (hz : (zeroValue e).run P w = .ok (.bool false) w) (b n : Nat) (ks : List (List UInt8))
    (hm : a.eval m = .map (some b)) (hown : w.ownsMap P k (plainElem P e) b n (seenD ks)) (s : ByteArray) (hx : a.eval x = .string s) (hkey : keyOf P k (.string s) = some (.string s.data.toList))
    (hK : wpList P ops Q rest (a.put o.dst (.bool (ks.contains s.data.toList))) w) :
    wpList P ops Q (o :: rest) a w := by
  refine wpList_plain hg fun K' hK' => ?_
  obtain ⟨v, ps, hrun, hv⟩ := hown.lookup K ht hz (plainElem_bool he false) hkey
  obtain ⟨c, rfl, hc⟩ := plainElem_bool_inv he hv
  simp only [Prod.mk.injEq] at hc
  have hc2 : c = ks.contains s.data.toList := by
    have h2 := hc.1
    rw [seenD_at] at h2
    injection h2 with h2
    injection h2 with h2
    exact h2.symm
  subst hc2
  unfold Oper.wp
  simp [execOp, hop, hm, hx, hrun, Result.andThen]
  exact hK' _ _ (by simpa using hK)
end Go.Proofs.YtkkhjlomicokgaaGreatDoor

/- A slice's rest, and its beginning, as lists. No program. -/
namespace Go.Proofs.YtkkhjlomicokgaaGreatDoor
open Go.RowKit
section
variable {α : Type} {w w' : World} {B sz n i : Nat} {f : α → List Value} {l : List α}
theorem Sl.drop {b o : Nat} (h : Sl w B f sz (some ⟨b, o, none⟩) n l) (hi : i ≤ n) : Sl w B f sz (some ⟨b, o + i * sz, none⟩) (n - i) (l.drop i) := by
  refine ⟨by rw [List.length_drop, h.len], fun h0 => ?_⟩
  obtain ⟨b', o', e, hlt, hc⟩ := h.cells (by omega)
  simp only [Option.some.injEq, Addr.mk.injEq] at e
  obtain ⟨rfl, rfl, _⟩ := e
  refine ⟨b, o + i * sz, rfl, hlt, fun k a ha j v hv => ?_⟩
  have := hc (i + k) a (by rw [List.getElem?_drop] at ha; exact ha) j v hv
  rwa [show o + (i + k) * sz + j = o + i * sz + k * sz + j by rw [Nat.add_mul]; omega] at this
theorem Sl.first {A : Option Addr} (h : Sl w B f sz A n l) (hi : i ≤ n) : Sl w B f sz A i (l.take i) := by
  refine ⟨by rw [List.length_take, h.len]; omega, fun h0 => ?_⟩
  obtain ⟨b, o, e, hlt, hc⟩ := h.cells (by omega)
  refine ⟨b, o, e, hlt, fun k a ha j v hv => hc k a ?_ j v hv⟩
  rw [List.getElem?_take] at ha
  split at ha
  · exact ha
  · cases ha
theorem Sl.up {A : Option Addr} (h : Sl w w.heap.size f sz A n l) (hb : Below w.heap.size w w') : Sl w' w'.heap.size f sz A n l := (h.below hb).more hb.size
theorem flatMap_at (hf : ∀ a, (f a).length = sz) : ∀ (l : List α) (j : Nat) (u : Value), (l.flatMap f)[j]? = some u → ∃ i a r, j = i * sz + r ∧ l[i]? = some a ∧ (f a)[r]? = some u := by
  intro l
  induction l with
  | nil => intro j u h; simp at h
  | cons x l ih =>
    intro j u h
    rw [List.flatMap_cons] at h
    by_cases hj : j < (f x).length
    · rw [List.getElem?_append_left hj] at h
      exact ⟨0, x, j, by omega, rfl, h⟩
    · rw [List.getElem?_append_right (by omega)] at h
      obtain ⟨i, a, r, h1, h2, h3⟩ := ih _ _ h
      refine ⟨i + 1, a, r, ?_, by simpa using h2, h3⟩
      have := hf x
      rw [Nat.succ_mul]
      omega
/-- A slice's cells in a row, as an append's source wants them. -/
theorem Sl.news {b o : Nat} (hf : ∀ a, (f a).length = sz) (h : Sl w B f sz (some ⟨b, o, none⟩) n l) : ∀ j u, (l.flatMap f)[j]? = some u → w.cell? ((⟨b, o, none⟩ : Addr).add j) = some u := by
  intro j u hu
  obtain ⟨i, a, r, rfl, ha, hr⟩ := flatMap_at hf l j u hu
  have hi : i < l.length := (List.getElem?_eq_some_iff.1 ha).1
  obtain ⟨b', o', e, hlt, hc⟩ := h.cells (by have := h.len; omega)
  simp only [Option.some.injEq, Addr.mk.injEq] at e
  obtain ⟨rfl, rfl, _⟩ := e
  have e2 : ((⟨b, o, none⟩ : Addr).add (i * sz + r)) = ⟨b, o + i * sz + r, none⟩ := by
    unfold Addr.add; split
    · rename_i e; rw [Nat.add_assoc, e]; rfl
    · simp; omega
  rw [e2]
  exact hc i a ha r u hr
theorem flatMap_len (hf : ∀ a, (f a).length = sz) (l : List α) : (l.flatMap f).length = l.length * sz := by
  induction l with
  | nil => simp
  | cons x l ih => rw [List.flatMap_cons, List.length_append, ih, hf, List.length_cons, Nat.succ_mul]; omega
end
end Go.Proofs.YtkkhjlomicokgaaGreatDoor

/- An owned row, read as a list. No program. -/
namespace Go.Proofs.YtkkhjlomicokgaaGreatDoor
open Go.RowKit
/-- The cells of a new block, as an append's source wants them. -/
theorem cells_new (w : World) (cs : List Value) (t : TypeId) : ∀ j u, cs[j]? = some u → (w.alloc (.cells cs.toArray t)).cell? ((⟨w.heap.size, 0, none⟩ : Addr).add j) = some u := by
  intro j u h
  have : ((⟨w.heap.size, 0, none⟩ : Addr).add j) = ⟨w.heap.size, j, none⟩ := by
    unfold Addr.add; split
    · rename_i e; subst e; rfl
    · simp
  rw [this, World.cell?_alloc_new]
  simpa using h
theorem cells_at (w : World) (cs : List Value) (t : TypeId) (b : Nat) (hb : b = w.heap.size) : ∀ j u, cs[j]? = some u → (w.alloc (.cells cs.toArray t)).cell? ((⟨b, 0, none⟩ : Addr).add j) = some u := by
  subst hb; exact cells_new w cs t
/-- An owned row, read as a list. -/
theorem sl_of_own {α : Type} {w : World} {base sz n : Nat} {e : TypeId} {v : Value} {f : α → List Value} {l : List α} (hf : ∀ a, (f a).length = sz) (hn : l.length = n)
    (h : w.ownsRow base e sz v n (l.flatMap f)) : ∃ A c, v = .slice A n c ∧ Sl w w.heap.size f sz A n l ∧ n ≤ c ∧ (n = 0 ∨ c ≤ maxLen) := by
  have key : ∀ (l : List α) (i : Nat) (a : α), l[i]? = some a → ∀ j v, (f a)[j]? = some v → (l.flatMap f)[i * sz + j]? = some v := by
    intro l
    induction l with
    | nil => intro i a h; simp at h
    | cons x l ih =>
      intro i a ha j v hv
      rw [List.flatMap_cons]
      cases i with
      | zero =>
        simp at ha; subst ha
        have hj : j < (f x).length := (List.getElem?_eq_some_iff.1 hv).1
        rw [Nat.zero_mul, Nat.zero_add, List.getElem?_append_left hj]
        exact hv
      | succ i =>
        have := ih i a (by simpa using ha) j v hv
        rw [List.getElem?_append_right (by rw [hf, Nat.succ_mul]; omega), hf, Nat.succ_mul, show i * sz + sz + j - sz = i * sz + j by omega]
        exact this
  rcases h.2 with ⟨rfl, h0⟩ | ⟨g, cap, cur, rfl, hg, hh, hnc, hcm, _, _⟩
  · subst h0
    obtain rfl : l = [] := List.eq_nil_of_length_eq_zero hn
    exact ⟨none, 0, rfl, Sl.nil _ _ _ _ _, Nat.le_refl _, .inl rfl⟩
  · refine ⟨some ⟨g, 0, none⟩, cap, rfl, ⟨hn, fun _ => ⟨g, 0, rfl, ?_, fun i a ha j v hv => ?_⟩⟩, hnc, .inr hcm⟩
    · rcases Nat.lt_or_ge g w.heap.size with hlt | hge
      · exact hlt
      · rw [Array.getElem?_eq_none hge] at hh; cases hh
    · have hk := key l i a ha j v hv
      have hc := h.cells (g := g) rfl _ _ hk
      have e : ((⟨g, 0, none⟩ : Addr).add (i * sz + j)) = ⟨g, 0 + i * sz + j, none⟩ := by
        unfold Addr.add; split
        · rename_i e; rw [Nat.zero_add, e]
        · simp
      rw [e] at hc
      exact hc
end Go.Proofs.YtkkhjlomicokgaaGreatDoor

/- Owned rows and blocks of one's own, while other things happen. No program. -/
namespace Go.Proofs.YtkkhjlomicokgaaGreatDoor
open Go.RowKit
section
variable {w w' : World} {base sz n : Nat} {e : TypeId} {v : Value} {xs : List Value}
theorem own_below (h : w.ownsRow base e sz v n xs) (hB : Below w.heap.size w w') : w'.ownsRow base e sz v n xs := by
  refine ⟨h.1, ?_⟩
  rcases h.2 with h0 | ⟨g, cap, cur, h1, h2, h3, h4⟩
  · exact .inl h0
  · exact .inr ⟨g, cap, cur, h1, h2, (hB.block g (lt_of_block h3)).trans h3, h4⟩
theorem block_below {b : Nat} {o : Obj} (h : w.heap[b]? = some o) (hB : Below w.heap.size w w') : w'.heap[b]? = some o := (hB.block b (lt_of_block h)).trans h
theorem own_other' {B : Nat} {cs : Array Value} {ty : TypeId} {fr : Nat × Nat} (h : w.ownsRow base e sz v n xs) (hb : w.heap[B]? = some (.cells cs ty fr)) (hne : e ≠ ty) : v.ownBlock ≠ some B := by
  rcases h.2 with ⟨rfl, _⟩ | ⟨g, cap, cur, rfl, _, hh, _⟩
  · simp [Value.ownBlock]
  · intro e
    simp [Value.ownBlock] at e
    subst e
    rw [hh] at hb
    simp at hb
    exact hne hb.2.1
/-- An owned row does not lie in a block that was not there when the row was. -/
theorem own_before {B : Nat} (h : w.ownsRow base e sz v n xs) (hB : w.heap.size ≤ B) : v.ownBlock ≠ some B := fun e => by have := (h.lt B e).2; omega
theorem block_cell {b : Nat} {cs : Array Value} {ty : TypeId} {fr : Nat × Nat} (h : w.heap[b]? = some (.cells cs ty fr)) (i : Nat) : w.cell? ⟨b, i, none⟩ = cs[i]? := by simp [World.cell?, h]
theorem block_free {b : Nat} {cs : Array Value} {ty : TypeId} (h : w.heap[b]? = some (.cells cs ty (0, 0))) (i : Nat) : w.frozen? ⟨b, i, none⟩ = false := by simp [World.frozen?, h]
theorem block_set {b i : Nat} {cs : Array Value} {ty : TypeId} {fr : Nat × Nat} (h : w.heap[b]? = some (.cells cs ty fr)) (u : Value) : (w.setCell ⟨b, i, none⟩ u).heap[b]? = some (.cells (cs.setIfInBounds i u) ty fr) := by
  simp [World.setCell, Array.getElem?_modify, h]
theorem block_set_other {b : Nat} {o : Obj} (h : w.heap[b]? = some o) (a : Addr) (u : Value) (hne : b ≠ a.block) : (w.setCell a u).heap[b]? = some o := (heap_setCell_other w a b u hne).trans h
end
theorem below_set {B : Nat} {a w : World} (h : Below B a w) {b i : Nat} (hb : B ≤ b) (u : Value) : Below B a (w.setCell ⟨b, i, none⟩ u) := h.setCell hb u
end Go.Proofs.YtkkhjlomicokgaaGreatDoor

/- A row of one's own: an element is read, an element is set. No program. -/
namespace Go.Proofs.YtkkhjlomicokgaaGreatDoor
open Go.RowKit
set_option linter.unusedVariables false
section
variable {α : Type} {f : α → List Value} {sz : Nat}
theorem fm_get (hf : ∀ a, (f a).length = sz) : ∀ (l : List α) (i r : Nat), r < sz → (l.flatMap f)[i * sz + r]? = (l[i]?).bind fun a => (f a)[r]?
  | [], i, r, _ => by simp
  | x :: l, 0, r, hr => by
    rw [List.flatMap_cons, Nat.zero_mul, Nat.zero_add, List.getElem?_append_left (by rw [hf]; exact hr)]
    simp
  | x :: l, i + 1, r, hr => by
    rw [List.flatMap_cons, List.getElem?_append_right (by rw [hf, Nat.succ_mul]; omega), hf, Nat.succ_mul, show i * sz + sz + r - sz = i * sz + r by omega, fm_get hf l i r hr]
    simp
theorem fm_len (hf : ∀ a, (f a).length = sz) (l : List α) : (l.flatMap f).length = l.length * sz := flatMap_len hf l
/-- One cell of element i is set. -/
theorem fm_set (hf : ∀ a, (f a).length = sz) (l : List α) (i r : Nat) (x y : α) (u : Value) (hr : r < sz) (hx : l[i]? = some x) (hy : f y = (f x).set r u) : (l.set i y).flatMap f = (l.flatMap f).set (i * sz + r) u := by
  have hi : i < l.length := (List.getElem?_eq_some_iff.1 hx).1
  apply List.ext_getElem?
  intro k
  rw [List.getElem?_set]
  have hsz : 0 < sz := by omega
  obtain ⟨q, s, hs, rfl⟩ : ∃ q s, s < sz ∧ k = q * sz + s := ⟨k / sz, k % sz, Nat.mod_lt _ hsz, by rw [Nat.mul_comm]; exact (Nat.div_add_mod k sz).symm⟩
  rw [fm_get hf _ q s hs, fm_get hf _ q s hs, List.getElem?_set]
  by_cases hq : i = q
  · subst hq
    by_cases hrs : r = s
    · subst hrs
      rw [if_pos rfl, if_pos hi, if_pos rfl, if_pos (by rw [fm_len hf]; calc i * sz + r < i * sz + sz := by omega
          _ = (i + 1) * sz := by rw [Nat.succ_mul]
          _ ≤ l.length * sz := Nat.mul_le_mul_right _ hi)]
      simp only [Option.bind_some]
      rw [hy, List.getElem?_set, if_pos rfl, if_pos (by rw [hf]; exact hr)]
    · rw [if_pos rfl, if_pos hi, if_neg (by omega), hx]
      simp only [Option.bind_some]
      rw [hy, List.getElem?_set, if_neg hrs]
  · rw [if_neg hq, if_neg (fun e => hq (by
      have h1 : (i * sz + r) / sz = (q * sz + s) / sz := by rw [e]
      rw [Nat.mul_comm i, Nat.mul_comm q, Nat.mul_add_div hsz, Nat.mul_add_div hsz, Nat.div_eq_of_lt hr, Nat.div_eq_of_lt hs] at h1
      omega))]
end
section
variable {w : World} {base sz n : Nat} {e : TypeId} {v : Value} {xs : List Value}
/-- A row's block, and a cell of it. -/
theorem own_blk (h : w.ownsRow base e sz v n xs) (hn : 0 < n) : ∃ g cap cur, v = .slice (some ⟨g, 0, none⟩) n cap ∧ base ≤ g ∧ w.heap[g]? = some (.cells cur e (0, 0)) ∧ n ≤ cap ∧ cap ≤ maxLen ∧ cur.size = cap * sz ∧ cur.toList.take (n * sz) = xs := by
  rcases h.2 with ⟨_, h0⟩ | h
  · omega
  · exact h
theorem own_cell {g : Nat} {cap : Nat} (h : w.ownsRow base e sz (.slice (some ⟨g, 0, none⟩) n cap) n xs) (k : Nat) (u : Value) (hk : xs[k]? = some u) : w.cell? ⟨g, k, none⟩ = some u := by
  have := h.cells (g := g) rfl k u hk
  have e : ((⟨g, 0, none⟩ : Addr).add k) = ⟨g, k, none⟩ := by
    unfold Addr.add; split
    · rename_i e; rw [e]
    · simp
  rwa [e] at this
theorem own_sl (h : w.ownsRow base e sz v n xs) : ∃ a c, v = .slice a n c := by
  rcases h.2 with ⟨rfl, rfl⟩ | ⟨g, cap, cur, rfl, _⟩
  · exact ⟨_, _, rfl⟩
  · exact ⟨_, _, rfl⟩
/-- A cell of the row is set. -/
theorem own_set {g cap : Nat} (h : w.ownsRow base e sz (.slice (some ⟨g, 0, none⟩) n cap) n xs) (k : Nat) (u : Value) : (w.setCell ⟨g, k, none⟩ u).ownsRow base e sz (.slice (some ⟨g, 0, none⟩) n cap) n (xs.set k u) := by
  refine ⟨by rw [List.length_set]; exact h.1, ?_⟩
  rcases h.2 with ⟨h1, _⟩ | ⟨g', cap', cur, h1, h2, h3, h4, h5, h6, h7⟩
  · cases h1
  · simp only [Value.slice.injEq, Option.some.injEq, Addr.mk.injEq, true_and, and_true] at h1
    obtain ⟨rfl, rfl⟩ := h1
    refine .inr ⟨g, cap, cur.setIfInBounds k u, rfl, h2, block_set h3 u, h4, h5, by simpa using h6, ?_⟩
    rw [Array.toList_setIfInBounds, List.take_set, h7]
end
/-- A row's cells may be written. -/
theorem own_free {w : World} {base sz n g cap : Nat} {e : TypeId} {xs : List Value} (h : w.ownsRow base e sz (.slice (some ⟨g, 0, none⟩) n cap) n xs) (k : Nat) : w.frozen? ⟨g, k, none⟩ = false := by
  rcases h.2 with ⟨h1, _⟩ | ⟨g', cap', cur, h1, h2, h3, h4⟩
  · cases h1
  · simp only [Value.slice.injEq, Option.some.injEq, Addr.mk.injEq, true_and, and_true] at h1
    obtain ⟨rfl, rfl⟩ := h1
    exact block_free h3 k
end Go.Proofs.YtkkhjlomicokgaaGreatDoor

/- A region that draws its order: what only reads is taken first while a condition on the world holds; the condition need not hold any more when operation k has come up, which waits for all that is taken so. No program. -/
namespace Go.Proofs.YtkkhjlomicokgaaGreatDoor
section
variable {P : Program} {ops : Array Oper} {Q : Exit → Act → World → Prop} {md : Region.Mode} {S : World → Prop} {k : Nat}
/-- Operation j waits for operation i, through at most f others. -/
def waitsFor (md : Region.Mode) (ops : Array Oper) : Nat → Nat → Nat → Bool
  | 0, _, _ => false
  | f + 1, j, i => ((ops[j]?).map fun o => o.after.any fun e => Region.binds md e && (e.on == i || waitsFor md ops f e.on i)).getD false
/-- What has come up came up behind all that it waits for. -/
def Shut (md : Region.Mode) (ops : Array Oper) (L : Array Bool) : Prop := ∀ (j : Nat) (o : Oper), ops[j]? = some o → L.getD j false = true → ∀ e ∈ o.after, Region.binds md e = true → L.getD e.on false = true
theorem waits_listed {L : Array Bool} (hS : Shut md ops L) : ∀ (f j i : Nat) (o : Oper), ops[j]? = some o → (∀ e ∈ o.after, Region.binds md e = true → L.getD e.on false = true) → waitsFor md ops f j i = true → L.getD i false = true
  | 0, _, _, _, _, _, h => by cases h
  | f + 1, j, i, o, ho, hall, h => by
    simp only [waitsFor, ho, Option.map_some, Option.getD_some] at h
    obtain ⟨e, he, hb⟩ := Array.any_eq_true'.1 h
    simp only [Bool.and_eq_true, Bool.or_eq_true, beq_iff_eq] at hb
    have h1 := hall e he hb.1
    rcases hb.2 with h2 | h2
    · rw [← h2]; exact h1
    · cases f with
      | zero => cases h2
      | succ f =>
        cases ho2 : ops[e.on]? with
        | none => simp [waitsFor, ho2] at h2
        | some o2 => exact waits_listed hS (f + 1) e.on i o2 ho2 (hS _ _ ho2 h1) h2
theorem Shut.set {L : Array Bool} (hS : Shut md ops L) {i : Nat} (hr : i ∈ Region.ready md ops L) : Shut md ops (L.setIfInBounds i true) := by
  intro j o ho hl e he hb
  by_cases hji : j = i
  · subst hji
    obtain ⟨_, o', ho', hall⟩ := mem_ready.1 hr
    rw [ho] at ho'
    obtain rfl := Option.some.inj ho'
    exact getD_set_true (hall e he hb)
  · rw [getD_set_ne false (Ne.symm hji)] at hl
    exact getD_set_true (hS j o ho hl e he hb)
/-- Whatever order is picked; till k has come up, S holds behind each operation. -/
def wpAnyC (P : Program) (md : Region.Mode) (ops : Array Oper) (Q : Exit → Act → World → Prop) (S : World → Prop) (k : Nat) : Nat → Array Bool → Act → World → Prop
  | 0, listed, a, w => Region.ready md ops listed = [] ∧ Q .normal a w
  | fuel + 1, listed, a, w =>
    (Region.ready md ops listed = [] → Q .normal a w) ∧
    ∀ i ∈ Region.ready md ops listed, wpOp P ops Q i (fun a' w' => ((listed.setIfInBounds i true).getD k false = false → S w') ∧ wpAnyC P md ops Q S k fuel (listed.setIfInBounds i true) a' w') a w
theorem wpAny_of_C : ∀ (fuel : Nat) (listed : Array Bool) (a : Act) (w : World), wpAnyC P md ops Q S k fuel listed a w → wpAny P md ops Q fuel listed a w
  | 0, _, _, _, h => h
  | fuel + 1, _, _, _, h => ⟨h.1, fun i hi => wpOp_mono (fun a' w' h' => wpAny_of_C fuel _ a' w' h'.2) (h.2 i hi)⟩
theorem wpAnyC_of_any : ∀ (fuel : Nat) (listed : Array Bool) (a : Act) (w : World), listed.getD k false = true → wpAny P md ops Q fuel listed a w → wpAnyC P md ops Q S k fuel listed a w
  | 0, _, _, _, _, h => h
  | fuel + 1, _, _, _, hu, h => ⟨h.1, fun i hi => wpOp_mono (fun a' w' h' => ⟨fun hf => (by rw [getD_set_true hu] at hf; cases hf), wpAnyC_of_any fuel _ a' w' (getD_set_true hu) h'⟩) (h.2 i hi)⟩
theorem wpAnyC_first {i f : Nat} {oi : Oper} {v : Value} (hi : ops[i]? = some oi) (hki : k ≠ i) (hwt : waitsFor md ops f k i = true) (hsel : ∀ (j : Nat) (o : Oper) cs b, ops[j]? = some o → o.op ≠ .select cs b)
    (hQ : ∀ c a w, Q (.panic c) (a.put oi.dst v) w → Q (.panic c) a w) :
    ∀ (fuel : Nat) (listed : Array Bool) (a : Act) (w : World), Shut md ops listed →
      (∀ j oj, ops[j]? = some oj → j ≠ i → listed.getD j true = false → (∀ e ∈ oj.after, Region.binds md e = true → e.on ≠ i) → oi.apart ops oj = true) →
      i ∈ Region.ready md ops listed → YieldsIf P ops S oi v a → S w →
      wpAnyC P md ops Q S k fuel (listed.setIfInBounds i true) (a.put oi.dst v) w → wpAnyC P md ops Q S k (fuel + 1) listed a w := by
  intro fuel
  induction fuel with
  | zero =>
    intro listed a w _ _ hr hy hS H
    refine ⟨fun h => (by rw [h] at hr; cases hr), fun j hj => ?_⟩
    by_cases hji : j = i
    · subst hji; exact hy.wpOp hi hS ⟨fun _ => hS, H⟩
    · have := ready_mono hj hji
      rw [H.1] at this
      cases this
  | succ fuel ih =>
    intro listed a w hsh hfree hr hy hS H
    refine ⟨fun h => (by rw [h] at hr; cases hr), fun j hj => ?_⟩
    by_cases hji : j = i
    · subst hji; exact hy.wpOp hi hS ⟨fun _ => hS, H⟩
    · have hun := getD_both (mem_ready.1 hr).1
      have h1 := H.2 j (ready_mono hj hji)
      obtain ⟨hjun, oj, hoj, hall⟩ := mem_ready.1 hj
      have hjk : j ≠ k := fun e => by
        subst e
        rw [waits_listed hsh f j i oj hoj hall hwt] at hun
        cases hun
      have hku : listed.getD k false = false := by
        rw [Bool.eq_false_iff]
        intro hc
        have hko : ∃ o, ops[k]? = some o := by
          cases f with
          | zero => cases hwt
          | succ f =>
            cases ho : ops[k]? with
            | none => simp [waitsFor, ho] at hwt
            | some o => exact ⟨o, rfl⟩
        obtain ⟨o, ho⟩ := hko
        rw [waits_listed hsh f k i o ho (hsh k o ho hc) hwt] at hun
        cases hun
      have hks : ((listed.setIfInBounds i true).setIfInBounds j true).getD k false = false := by rw [getD_set_ne false hjk, getD_set_ne false (Ne.symm hki)]; exact hku
      have hnot : ∀ e ∈ oj.after, Region.binds md e = true → e.on ≠ i := fun e he hb heq => by
        have h1 := hall e he hb
        rw [heq, hun] at h1
        cases h1
      have h2 := wpOp_putIf hoj (hfree j oj hoj hji hjun hnot) (fun cs b => hsel i oi cs b hi) (fun cs b => hsel j oj cs b hoj) hQ hy h1
      have hfree' : ∀ q oq, ops[q]? = some oq → q ≠ i → (listed.setIfInBounds j true).getD q true = false →
          (∀ e ∈ oq.after, Region.binds md e = true → e.on ≠ i) → oi.apart ops oq = true := fun q oq hq hqi hun hno => by
        refine hfree q oq hq hqi ?_ hno
        by_cases hjq : j = q
        · subst hjq; exact hjun
        · rw [getD_set_ne true hjq] at hun; exact hun
      refine wpOp_mono (fun a' w' h3 => ⟨fun _ => h3.2.1 hks, ih (listed.setIfInBounds j true) a' w' (hsh.set hj) hfree' (ready_mono hr (Ne.symm hji)) h3.1 (h3.2.1 hks) ?_⟩) h2
      rw [Array.setIfInBounds_comm _ _ hji]
      exact h3.2.2
/-- Operation i is taken first: it may come up, and yields v in every world that meets S. -/
theorem wpAnyC_take {i f : Nat} {oi : Oper} {v : Value} {d : Option Nat} {fuel : Nat} {listed : Array Bool} {a : Act} {w : World} (hi : ops[i]? = some oi) (hd : oi.dst = d)
    (hs : Region.noSelect ops = true) (hf : Region.free md ops listed i = true) (hr : (Region.ready md ops listed).contains i = true) (hsh : Shut md ops listed) (hki : k ≠ i) (hwt : waitsFor md ops f k i = true)
    (hQ : ∀ c a w, Q (.panic c) (a.put d v) w → Q (.panic c) a w) (hS : S w) (hy : YieldsIf P ops S oi v a)
    (h : Shut md ops (listed.setIfInBounds i true) → wpAnyC P md ops Q S k fuel (listed.setIfInBounds i true) (a.put d v) w) : wpAnyC P md ops Q S k (fuel + 1) listed a w := by
  subst hd
  have hr' : i ∈ Region.ready md ops listed := by simpa using hr
  exact wpAnyC_first hi hki hwt (Region.noSelect_spec hs) hQ fuel listed a w hsh (Region.free_spec hi hf) hr' hy hS (h (hsh.set hr'))
/-- The same of an operation that yields v in whatever world. -/
theorem wpAnyC_first0 {i : Nat} {oi : Oper} {v : Value} (hi : ops[i]? = some oi) (hki : k ≠ i) (hsel : ∀ (j : Nat) (o : Oper) cs b, ops[j]? = some o → o.op ≠ .select cs b)
    (hQ : ∀ c a w, Q (.panic c) (a.put oi.dst v) w → Q (.panic c) a w) :
    ∀ (fuel : Nat) (listed : Array Bool) (a : Act) (w : World),
      (∀ j oj, ops[j]? = some oj → j ≠ i → listed.getD j true = false → (∀ e ∈ oj.after, Region.binds md e = true → e.on ≠ i) → oi.apart ops oj = true) →
      i ∈ Region.ready md ops listed → YieldsIf P ops (fun _ => True) oi v a → (listed.getD k false = false → S w) →
      wpAnyC P md ops Q S k fuel (listed.setIfInBounds i true) (a.put oi.dst v) w → wpAnyC P md ops Q S k (fuel + 1) listed a w := by
  intro fuel
  induction fuel with
  | zero =>
    intro listed a w _ hr hy hS H
    refine ⟨fun h => (by rw [h] at hr; cases hr), fun j hj => ?_⟩
    by_cases hji : j = i
    · subst hji; exact hy.wpOp hi trivial ⟨fun hu => hS (by rw [getD_set_ne false (Ne.symm hki)] at hu; exact hu), H⟩
    · have := ready_mono hj hji
      rw [H.1] at this
      cases this
  | succ fuel ih =>
    intro listed a w hfree hr hy hS H
    refine ⟨fun h => (by rw [h] at hr; cases hr), fun j hj => ?_⟩
    by_cases hji : j = i
    · subst hji; exact hy.wpOp hi trivial ⟨fun hu => hS (by rw [getD_set_ne false (Ne.symm hki)] at hu; exact hu), H⟩
    · have hun := getD_both (mem_ready.1 hr).1
      have h1 := H.2 j (ready_mono hj hji)
      obtain ⟨hjun, oj, hoj, hall⟩ := mem_ready.1 hj
      have hks : (listed.setIfInBounds j true).getD k false = false → ((listed.setIfInBounds i true).setIfInBounds j true).getD k false = false := fun hu => by
        rw [Array.setIfInBounds_comm _ _ (Ne.symm hji), getD_set_ne false (Ne.symm hki)]; exact hu
      have hnot : ∀ e ∈ oj.after, Region.binds md e = true → e.on ≠ i := fun e he hb heq => by
        have h1 := hall e he hb
        rw [heq, hun] at h1
        cases h1
      have h2 := wpOp_putIf hoj (hfree j oj hoj hji hjun hnot) (fun cs b => hsel i oi cs b hi) (fun cs b => hsel j oj cs b hoj) hQ hy h1
      have hfree' : ∀ q oq, ops[q]? = some oq → q ≠ i → (listed.setIfInBounds j true).getD q true = false →
          (∀ e ∈ oq.after, Region.binds md e = true → e.on ≠ i) → oi.apart ops oq = true := fun q oq hq hqi hun hno => by
        refine hfree q oq hq hqi ?_ hno
        by_cases hjq : j = q
        · subst hjq; exact hjun
        · rw [getD_set_ne true hjq] at hun; exact hun
      refine wpOp_mono (fun a' w' h3 => ⟨fun hu => h3.2.1 (hks hu), ih (listed.setIfInBounds j true) a' w' hfree' (ready_mono hr (Ne.symm hji)) h3.1 (fun hu => h3.2.1 (hks hu)) ?_⟩) h2
      rw [Array.setIfInBounds_comm _ _ hji]
      exact h3.2.2
theorem wpAnyC_take0 {i : Nat} {oi : Oper} {v : Value} {d : Option Nat} {fuel : Nat} {listed : Array Bool} {a : Act} {w : World} (hi : ops[i]? = some oi) (hd : oi.dst = d)
    (hs : Region.noSelect ops = true) (hf : Region.free md ops listed i = true) (hr : (Region.ready md ops listed).contains i = true) (hsh : Shut md ops listed) (hki : k ≠ i)
    (hQ : ∀ c a w, Q (.panic c) (a.put d v) w → Q (.panic c) a w) (hS : S w) (hy : YieldsIf P ops (fun _ => True) oi v a)
    (h : Shut md ops (listed.setIfInBounds i true) → wpAnyC P md ops Q S k fuel (listed.setIfInBounds i true) (a.put d v) w) : wpAnyC P md ops Q S k (fuel + 1) listed a w := by
  subst hd
  have hr' : i ∈ Region.ready md ops listed := by simpa using hr
  exact wpAnyC_first0 hi hki (Region.noSelect_spec hs) hQ fuel listed a w (Region.free_spec hi hf) hr' hy (fun _ => hS) (h (hsh.set hr'))
/-- The same behind k. -/
theorem wpAnyC_take1 {i : Nat} {oi : Oper} {v : Value} {d : Option Nat} {fuel : Nat} {listed : Array Bool} {a : Act} {w : World} (hi : ops[i]? = some oi) (hd : oi.dst = d)
    (hs : Region.noSelect ops = true) (hf : Region.free md ops listed i = true) (hr : (Region.ready md ops listed).contains i = true) (hsh : Shut md ops listed) (hst : listed.getD k false = true) (hki : k ≠ i)
    (hQ : ∀ c a w, Q (.panic c) (a.put d v) w → Q (.panic c) a w) (hy : YieldsIf P ops (fun _ => True) oi v a)
    (h : Shut md ops (listed.setIfInBounds i true) → wpAnyC P md ops Q S k fuel (listed.setIfInBounds i true) (a.put d v) w) : wpAnyC P md ops Q S k (fuel + 1) listed a w := by
  subst hd
  have hr' : i ∈ Region.ready md ops listed := by simpa using hr
  exact wpAnyC_first0 hi hki (Region.noSelect_spec hs) hQ fuel listed a w (Region.free_spec hi hf) hr' hy (fun h => by rw [hst] at h; cases h) (h (hsh.set hr'))
theorem wpAnyC_done {listed : Array Bool} {a : Act} {w : World} (hr : Region.ready md ops listed = []) (h : Q .normal a w) : wpAnyC P md ops Q S k 0 listed a w := ⟨hr, h⟩
/-- The ones that may come up, each by itself. -/
def AllC (P : Program) (md : Region.Mode) (ops : Array Oper) (Q : Exit → Act → World → Prop) (S : World → Prop) (k : Nat) (fuel : Nat) (listed : Array Bool) (a : Act) (w : World) (rs : List Nat) : Prop :=
  ∀ i ∈ rs, wpOp P ops Q i (fun a' w' => ((listed.setIfInBounds i true).getD k false = false → S w') ∧ wpAnyC P md ops Q S k fuel (listed.setIfInBounds i true) a' w') a w
theorem AllC.nil {fuel : Nat} {listed : Array Bool} {a : Act} {w : World} : AllC P md ops Q S k fuel listed a w [] := fun _ h => by cases h
theorem AllC.cons {fuel : Nat} {listed : Array Bool} {a : Act} {w : World} {i : Nat} {o : Oper} {rs : List Nat} (ho : ops[i]? = some o) (hr : (Region.ready md ops listed).contains i = true) (hsh : Shut md ops listed)
    (h : ∀ K' : Act → World → Prop, (∀ a w, ((listed.setIfInBounds i true).getD k false = false → S w) → (Shut md ops (listed.setIfInBounds i true) → wpAnyC P md ops Q S k fuel (listed.setIfInBounds i true) a w) → K' a w) →
      if Region.wanted o (yielded ops a.tmps) = true then Oper.wp P o a w K' Q else K' (a.put o.dst undef) w)
    (hs : AllC P md ops Q S k fuel listed a w rs) : AllC P md ops Q S k fuel listed a w (i :: rs) := fun j hj => by
  rcases List.mem_cons.1 hj with rfl | hj
  · exact wpOp_step ho fun K' hK => h K' fun a w h1 h2 => hK a w ⟨h1, h2 (hsh.set (by simpa using hr))⟩
  · exact hs j hj
theorem wpAnyC_ready {rs : List Nat} {fuel : Nat} {listed : Array Bool} {a : Act} {w : World} (hr : Region.ready md ops listed = rs) (hne : rs ≠ []) (h : AllC P md ops Q S k fuel listed a w rs) : wpAnyC P md ops Q S k (fuel + 1) listed a w :=
  ⟨fun h0 => absurd (hr ▸ h0) hne, hr ▸ h⟩
/-- Behind k the rest comes up in the text's order. -/
theorem wpAnyC_seq {l : List Oper} (n : Nat) {f : Nat} {listed : Array Bool} {a : Act} {w : World} (hf : (l.drop n).length = f) (hst : listed.getD k false = true) (hB : Region.seqB md l.toArray (l.drop n).length n listed = true) (h : wpList P l.toArray Q (l.drop n) a w) : wpAnyC P md l.toArray Q S k f listed a w := by
  subst hf
  exact wpAnyC_of_any _ _ _ _ hst (wpAny_of_seq (l.drop n) n listed a w (fun j => by simp [List.getElem?_drop]) hB h)
/-- k itself comes up next, and the rest in the text's order. -/
theorem wpAnyC_tail {l : List Oper} {f : Nat} {listed : Array Bool} {a : Act} {w : World} (hf : (l.drop k).length = f + 1) (hk : k < listed.size) (hB : Region.seqB md l.toArray (l.drop k).length k listed = true) (h : wpList P l.toArray Q (l.drop k) a w) : wpAnyC P md l.toArray Q S k (f + 1) listed a w := by
  have h1 := wpAny_of_seq (l.drop k) k listed a w (fun j => by simp [List.getElem?_drop]) hB h
  rw [hf] at h1 hB
  simp only [Region.seqB, Bool.and_eq_true, decide_eq_true_eq] at hB
  refine ⟨h1.1, fun i hi => ?_⟩
  have h2 := h1.2 i hi
  rw [hB.1] at hi
  obtain rfl : i = k := by simpa using hi
  have hu : (listed.setIfInBounds i true).getD i false = true := by simp [hk]
  exact wpOp_mono (fun a' w' h' => ⟨fun hf => (by rw [hu] at hf; cases hf), wpAnyC_of_any _ _ _ _ hu h'⟩) h2
theorem wp_region_chain {l : List Oper} {id N : Nat} {a : Act} {w : World} (S : World → Prop) (k : Nat) (hm : P.follows .mixedOrders = true) (hN : l.length = N)
    (h : Shut .any l.toArray (Array.replicate l.toArray.size false) → wpAnyC P .any l.toArray Q S k N (Array.replicate l.toArray.size false) a w.drew) : (Code.region id l.toArray true).wp P Q a w := by
  refine wp_region_any hm (wpAny_of_C (S := S) (k := k) _ _ _ _ ?_)
  have e : l.toArray.size = N := by simpa using hN
  have := h (fun j o _ hl => by rw [getD_replicate_false] at hl; cases hl)
  rw [← e] at this
  exact this
end
end Go.Proofs.YtkkhjlomicokgaaGreatDoor

/- A slice that came in, opened to a Lean list. No program of its own: over the seat's program. -/
namespace Go.Proofs.YtkkhjlomicokgaaGreatDoor
open Go.RowKit Go.ChangeShapes Go.WideShapes Go.Deep
theorem list_of {α : Type} {P : Nat → α → Prop} : ∀ m : Nat, (∀ i, i < m → ∃ a, P i a) → ∃ l : List α, l.length = m ∧ ∀ i a, l[i]? = some a → P i a := by
  intro m
  induction m with
  | zero => intro _; exact ⟨[], rfl, by simp⟩
  | succ m ih =>
    intro h
    obtain ⟨l, hl, hp⟩ := ih fun i hi => h i (by omega)
    obtain ⟨a, ha⟩ := h m (by omega)
    refine ⟨l ++ [a], by simp [hl], fun i b hb => ?_⟩
    by_cases hi : i < m
    · rw [List.getElem?_append_left (by omega)] at hb; exact hp i b hb
    · rw [List.getElem?_append_right (by omega)] at hb
      have : i - l.length = 0 := by
        rcases Nat.eq_zero_or_pos (i - l.length) with h0 | h0
        · exact h0
        · rw [List.getElem?_eq_none (by simp; omega)] at hb; cases hb
      rw [this] at hb
      simp at hb
      subst hb
      rwa [show i = m by omega]
section
variable {α : Type} {H : Type} {enc : TypeId × Value → H} {w : World} {base b0 : Nat} {v : Value} {d : DataW H} {p : List MemPlace} {r : Reach}
set_option maxRecDepth 100000 in
/-- What an element reads as is told by `hel`; G: what is known of each. -/
theorem open_sl {t e sz : Nat} (f : α → List Value) (G : α → Prop) (ht : Tryz.prog.underlying t = some (.slice e)) (hC : Tryz.prog.cellsOf e = sz) (hsz : 0 < sz) (hf : ∀ a, (f a).length = sz)
    (hel : ∀ (n : Nat) (cs : List Value) (x : DataW H × List MemPlace), DataW.trod enc Tryz.prog w 0 (fun _ => true) true n e cs = some x → ∃ a, cs = f a ∧ G a)
    (hv : Value.okWide Tryz.prog w r b0 t v) (h : DataW.Trod enc Tryz.prog w 0 (fun _ => true) true t v d p) :
    ∃ (A : Option Addr) (n cap : Nat) (l : List α), v = .slice A n cap ∧ Sl w w.heap.size f sz A n l ∧ n ≤ cap ∧ cap ≤ maxLen ∧ ∀ a ∈ l, G a := by
  obtain ⟨A, n, cap, rfl⟩ := okWide_slice ht hv
  obtain ⟨fuel, hfu⟩ := h
  rcases open_slice ht hfu with ⟨hcs, _⟩ | ⟨a, len, cap', m, k, D, Pl, hcs, _, hl, hm, hmm, _, hi⟩
  · simp [Value.cells] at hcs
    obtain ⟨rfl, rfl, rfl⟩ := hcs
    exact ⟨none, 0, 0, [], rfl, Sl.nil _ _ _ _ _, Nat.le_refl _, Nat.zero_le _, by simp⟩
  · simp [Value.cells] at hcs
    obtain ⟨rfl, rfl, rfl⟩ := hcs
    have hm' : m = cap := by simpa using hmm
    obtain ⟨l, hlen, hP⟩ := list_of (P := fun i (x : α) => G x ∧ ∀ j u, (f x)[j]? = some u → w.cell? ((a.add (i * sz)).add j) = some u) n (fun i hin => by
      obtain ⟨cs', hc', ht'⟩ := hi i (by omega)
      obtain ⟨x, rfl, hG⟩ := hel _ _ _ ht'
      obtain ⟨_, hcl, hat⟩ := World.cells?_some hc'
      rw [hC] at hcl hat hc'
      refine ⟨x, hG, fun j u hu => ?_⟩
      have hj : j < sz := by have := (List.getElem?_eq_some_iff.1 hu).1; rw [hf] at this; exact this
      rw [hat j hj, hu])
    refine ⟨some a, n, cap, l, rfl, ⟨hlen, fun hn => ?_⟩, hl, hm, fun x hx => ?_⟩
    · have h0 : l[0]? = some (l[0]'(by omega)) := List.getElem?_eq_getElem (by omega)
      have hu : (f (l[0]'(by omega)))[0]? = some ((f (l[0]'(by omega)))[0]'(by rw [hf]; omega)) := List.getElem?_eq_getElem (by rw [hf]; omega)
      have hc0 := (hP 0 _ h0).2 0 _ hu
      obtain ⟨b, o, spot⟩ := a
      have hspot : spot = none := by simpa [Addr.add] using World.cell?_spot hc0
      subst hspot
      refine ⟨b, o, rfl, ?_, fun i x hx j u hu => ?_⟩
      · have := World.block_lt_of_cell? w _ hc0
        simpa [Addr.add] using this
      · have := (hP i x hx).2 j u hu
        rw [add_plain, add_plain] at this
        exact this
    · obtain ⟨i, hi, rfl⟩ := List.mem_iff_getElem.1 hx
      exact (hP i _ (List.getElem?_eq_getElem hi)).1
end
end Go.Proofs.YtkkhjlomicokgaaGreatDoor
