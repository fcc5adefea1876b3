/- Faults that are read: rows behind a row, while others grow. No program. -/
import Derived.Test.YtkjpojaanocfjaaGreatDoorStRdU
import Derived.Test.YtkjpojaanocfjaaGreatDoorRowSet
namespace Go.Proofs.YtkjpojaanocfjaaGreatDoor
open Go.RowKit
set_option linter.unusedVariables false
set_option linter.unusedSimpArgs false
/-- Blocks before F stay, but p. -/
structure KeepB (p F : Nat) (w w' : World) : Prop where
  be : Below p w w'
  keep : ∀ k, k < w.heap.size → k < F → k ≠ p → w'.heap[k]? = w.heap[k]?
section
variable {p F B : Nat} {w w' w'' : World} {v v' : Value}
theorem KeepB.refl (p F : Nat) (w : World) : KeepB p F w w := ⟨Below.refl _ _, fun _ _ _ _ => rfl⟩
theorem KeepB.trans (h : KeepB p F w w') (h' : KeepB p F w' w'') : KeepB p F w w'' :=
  ⟨h.be.trans h'.be, fun k hk hF hp => (h'.keep k (Nat.lt_of_lt_of_le hk h.be.size) hF hp).trans (h.keep k hk hF hp)⟩
theorem KeepB.of_but (h : ButAt p w w') : KeepB p F w w' := ⟨h.be, fun k hk _ hp => by
  have e : w.heap[k]? = some w.heap[k] := Array.getElem?_eq_getElem hk
  exact (h.keep k _ e hp).trans e.symm⟩
theorem KeepB.of_below (h : Below B w w') (hF : F ≤ B) (hp : p ≤ B) : KeepB p F w w' := ⟨h.mono hp, fun k hk hk2 _ => h.block k (by omega)⟩
/-- A block from F on is written. -/
theorem KeepB.set {b i : Nat} (hb : F ≤ b) (hp : p ≤ b) (u : Value) : KeepB p F w (w.setCell ⟨b, i, none⟩ u) :=
  ⟨(Below.refl _ _).setCell (p := ⟨b, i, none⟩) hp u, fun k hk hk2 _ => heap_setCell_other w ⟨b, i, none⟩ k u (by show k ≠ b; omega)⟩
theorem KeepB.grown {r : Option Nat} (hg : w.grownBy w' r) (hr : ∀ j, r = some j → F ≤ j ∧ p ≤ j) (hp : p ≤ w.heap.size) : KeepB p F w w' :=
  ⟨(Below.refl _ _).grown hg hp (fun j hj => (hr j hj).2), fun k hk hk2 _ => hg.block k hk (fun e => by have := (hr k e.symm).1; omega)⟩
theorem KeepB.own {sz n B : Nat} {e : TypeId} {xs : List Value} (hk : KeepB p F w w') (h : w.ownsRow B e sz v n xs) (hF : w.heap.size ≤ F) (hp : p < B ∨ F ≤ p) : w'.ownsRow B e sz v n xs := by
  refine ⟨h.1, ?_⟩
  rcases h.2 with h0 | ⟨g, cap, cur, h1, h2, h3, h4⟩
  · exact .inl h0
  · have := lt_of_block h3
    exact .inr ⟨g, cap, cur, h1, h2, (hk.keep g this (by omega) (by omega)).trans h3, h4⟩
/-- Where a slice's cells lie they stay. -/
theorem sl_keep {α : Type} {f : α → List Value} {sz n C : Nat} {A : Option Addr} {l : List α} (h : Sl w C f sz A n l) (hk : ∀ g o, A = some ⟨g, o, none⟩ → g < C → w'.heap[g]? = w.heap[g]?) {C' : Nat} (hC : C ≤ C') : Sl w' C' f sz A n l := by
  refine ⟨h.len, fun hn => ?_⟩
  obtain ⟨b, o, e, hlt, hc⟩ := h.cells hn
  refine ⟨b, o, e, by omega, fun i a ha j u hu => ?_⟩
  rw [World.cell?_of_block (hk b o e hlt)]
  exact hc i a ha j u hu
end
/-- A fault's frames lie in a row of their own. -/
def FIn (B : Nat) (w : World) (x : FaultT) : Prop := x.n = 0 ∨ ∃ g o cs, x.A = some ⟨g, o, none⟩ ∧ B ≤ g ∧ w.heap[g]? = some (.cells cs 43 (0, 0))
/-- The faults that were read. -/
structure Fts (B : Nat) (w : World) (v : Value) (l : List FaultT) : Prop where
  out : w.ownsRow B 40 3 v l.length (l.flatMap FaultT.cs)
  ok : ∀ x ∈ l, x.ok w
  lies : ∀ x ∈ l, FIn B w x
theorem FaultT.cs_len (x : FaultT) : x.cs.length = 3 := rfl
theorem Frame.cs_len (x : Frame) : x.cs.length = 6 := rfl
section
variable {p F B : Nat} {w w' w'' : World} {v v' : Value} {l : List FaultT}
theorem Fts.nil (B : Nat) (w : World) : Fts B w (.slice none 0 0) [] := ⟨World.ownsRow_nil _ _ _ _, fun x h => by simp at h, fun x h => by simp at h⟩
theorem fok_keep {x : FaultT} (h : x.ok w) (hi : FIn B w x) (hk : ∀ g, g < w.heap.size → B ≤ g → (∃ cs, w.heap[g]? = some (.cells cs 43 (0, 0))) → w'.heap[g]? = w.heap[g]?) (hs : w.heap.size ≤ w'.heap.size) : x.ok w' ∧ FIn B w' x := by
  rcases hi with h0 | ⟨g, o, cs, e, hg, hc⟩
  · refine ⟨⟨h.kl, h.tl, h.nl, h.nc, ?_, h.ff⟩, .inl h0⟩
    have hl := h.sl.len
    exact ⟨hl, fun hn => by omega⟩
  · have hlt := lt_of_block hc
    have hgk := hk g hlt hg ⟨cs, hc⟩
    refine ⟨⟨h.kl, h.tl, h.nl, h.nc, ?_, h.ff⟩, .inr ⟨g, o, cs, e, hg, hgk.trans hc⟩⟩
    refine sl_keep h.sl (fun g' o' e' _ => ?_) hs
    rw [e] at e'
    simp at e'
    obtain ⟨rfl, _⟩ := e'
    exact hgk
theorem Fts.keep (h : Fts B w v l) (hk : KeepB p F w w') (hF : w.heap.size ≤ F) (hp : p < B ∨ F ≤ p) : Fts B w' v l := by
  have h2 := fun x hx => fok_keep (w' := w') (h.ok x hx) (h.lies x hx) (fun g hg hB _ => hk.keep g hg (by omega) (by omega)) hk.be.size
  exact ⟨hk.own h.out hF hp, fun x hx => (h2 x hx).1, fun x hx => (h2 x hx).2⟩
theorem Fts.below (h : Fts B w v l) (hb : Below w.heap.size w w') : Fts B w' v l :=
  h.keep (p := w.heap.size) (F := w.heap.size) (KeepB.of_below hb (Nat.le_refl _) (Nat.le_refl _)) (Nat.le_refl _) (.inr (Nat.le_refl _))
/-- A fault more. -/
theorem Fts.push {x : FaultT} (h : Fts B w v l) (hg : w.grownBy w' v.ownBlock) (ho : w'.ownsRow B 40 3 v' (l.length + 1) (l.flatMap FaultT.cs ++ x.cs)) (hx : x.ok w) (hi : FIn B w x) : Fts B w' v' (l ++ [x]) := by
  have hk : ∀ y, y.ok w → FIn B w y → y.ok w' ∧ FIn B w' y := fun y hy hyi => fok_keep hy hyi (fun g hg1 hB ⟨cs, hc⟩ => hg.block g hg1 (fun e => by
    have := own_other' h.out hc (by decide)
    exact this e.symm)) hg.size
  refine ⟨?_, fun y hy => ?_, fun y hy => ?_⟩
  · rw [List.length_append, List.flatMap_append]
    simpa using ho
  · rcases List.mem_append.1 hy with hy | hy
    · exact (hk y (h.ok y hy) (h.lies y hy)).1
    · simp at hy; subst hy; exact (hk y hx hi).1
  · rcases List.mem_append.1 hy with hy | hy
    · exact (hk y (h.ok y hy) (h.lies y hy)).2
    · simp at hy; subst hy; exact (hk y hx hi).2
end
/-- The fault that is read: its box, the row of its frames. -/
structure FBox (F : Nat) (K T : ByteArray) (v : Value) (fs : List Frame) (w : World) : Prop where
  box : w.heap[F]? = some (.cells #[.string K, .string T, v] 40 (0, 0))
  row : w.ownsRow (F + 1) 43 6 v fs.length (fs.flatMap Frame.cs)
  fit : FramesFit fs
section
variable {p F B : Nat} {w w' w'' : World} {v v' : Value} {K T : ByteArray} {fs : List Frame}
theorem FBox.lt (h : FBox F K T v fs w) : F < w.heap.size := lt_of_block h.box
theorem FBox.below (h : FBox F K T v fs w) (hb : Below w.heap.size w w') : FBox F K T v fs w' := ⟨block_below h.box hb, own_below h.row hb, h.fit⟩
theorem FBox.but (h : FBox F K T v fs w) (hb : ButAt p w w') (hp : p < F) : FBox F K T v fs w' := by
  refine ⟨hb.keep F _ h.box (by omega), ⟨h.row.1, ?_⟩, h.fit⟩
  rcases h.row.2 with h0 | ⟨g, cap, cur, h1, h2, h3, h4⟩
  · exact .inl h0
  · exact .inr ⟨g, cap, cur, h1, h2, hb.keep g _ h3 (by omega), h4⟩
theorem FBox.frees (h : FBox F K T v fs w) (i : Nat) : w.frozen? ⟨F, i, none⟩ = false := block_free h.box i
/-- Frames more, and the box says so. -/
theorem FBox.add {es : List Frame} (h : FBox F K T v fs w) (hg : w.grownBy w' v.ownBlock) (ho : w'.ownsRow (F + 1) 43 6 v' (fs.length + es.length) (fs.flatMap Frame.cs ++ es.flatMap Frame.cs)) (he : FramesFit es) :
    w'.heap[F]? = some (.cells #[.string K, .string T, v] 40 (0, 0)) ∧ FBox F K T v' (fs ++ es) (w'.setCell ⟨F, 2, none⟩ v') := by
  have hb : w'.heap[F]? = some (.cells #[.string K, .string T, v] 40 (0, 0)) := (hg.block F h.lt (fun e => by have := (h.row.lt F e.symm).1; omega)).trans h.box
  refine ⟨hb, (block_set hb (i := 2) v').trans rfl, ?_, fun x hx => ?_⟩
  · rw [List.length_append, List.flatMap_append]
    exact ownsRow_setCell_other ho (a := ⟨F, 2, none⟩) (fun e => by have := (ho.lt F e).1; omega) v'
  · rcases List.mem_append.1 hx with hx | hx
    · exact h.fit x hx
    · exact he x hx
theorem FBox.keepB (h : FBox F K T v fs w) (hg : w.grownBy w' v.ownBlock) (hp : p ≤ F) (u : Value) : KeepB p F w (w'.setCell ⟨F, 2, none⟩ u) :=
  (KeepB.grown hg (fun j hj => by have := (h.row.lt j hj).1; omega) (by have := h.lt; omega)).trans (KeepB.set (Nat.le_refl _) hp u)
/-- The fault's value. -/
theorem FBox.flt (h : FBox F K T v fs w) (hK : K.size ≤ 1000000) (hT : T.size ≤ 1000000) (hn : fs.length ≤ 2000001) (hB : B ≤ F) : ∃ A c, v = .slice A fs.length c ∧ (FaultT.mk K T A fs.length c fs).ok w ∧ FIn B w (FaultT.mk K T A fs.length c fs) := by
  obtain ⟨A, c, e, hsl, hnc, _⟩ := sl_of_own Frame.cs_len rfl h.row
  refine ⟨A, c, e, ⟨by show K.size ≤ maxLen; unfold maxLen; omega, by show T.size ≤ maxLen; unfold maxLen; omega, by show fs.length ≤ maxLen; unfold maxLen; omega, hnc, hsl, h.fit⟩, ?_⟩
  rcases h.row.2 with ⟨_, h0⟩ | ⟨g, cap, cur, h1, h2, h3, h4⟩
  · exact .inl h0
  · rw [e] at h1
    simp at h1
    exact .inr ⟨g, 0, cur, h1.1, by omega, h3⟩
theorem FBox.new (w : World) (K T : ByteArray) : FBox w.heap.size K T (.slice none 0 0) [] (w.alloc (.cells #[.string K, .string T, .slice none 0 0] 40)) :=
  ⟨heap_alloc_new w _, World.ownsRow_nil _ _ _ _, fun x h => by simp at h⟩
end
theorem Frame.fit_of {x : Frame} (h1 : x.mod.size ≤ 1000000) (h2 : x.fn.size ≤ 1000000) (h3 : x.file.size ≤ 1000000) : x.fit := ⟨by unfold maxLen; omega, by unfold maxLen; omega, by unfold maxLen; omega⟩
end Go.Proofs.YtkjpojaanocfjaaGreatDoor
