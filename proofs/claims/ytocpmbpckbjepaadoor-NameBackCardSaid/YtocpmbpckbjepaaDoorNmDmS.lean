/- The memory of the readers of mangled names (printed by gen_ds.py). No walk. -/
import Derived.Test.YtocpmbpckbjepaaDoorNmDmT
import Derived.Test.YtocpmbpckbjepaaDoorNmGC
import Derived.Test.YtocpmbpckbjepaaDoorNmGA
import Derived.Maps.OwnOps
import Derived.Maps.OwnSet
namespace Go.Proofs.YtocpmbpckbjepaaDoor
open Go.RowKit
set_option linter.unusedVariables false
set_option linter.unusedSimpArgs false
/-- What was read, as it stands in a row: the types' cells, behind h. -/
structure RowsU (w : World) (F : Nat → Prop) (h : Nat → List Value) (D : List Nd) (css : List (List Value)) : Prop where
  len : css.length = D.length
  in_ : ∀ (i : Nat) (x : Nd) (cs : List Value), D[i]? = some x → css[i]? = some cs → ∃ c, cs = h i ++ c ∧ TyU w F x.2 c
theorem RowsU.nil (w : World) (F : Nat → Prop) (h : Nat → List Value) : RowsU w F h [] [] := ⟨rfl, fun i x cs h => by simp at h⟩
theorem RowsU.stay {w w' : World} {F F' : Nat → Prop} {h : Nat → List Value} {D : List Nd} {css : List (List Value)} (hr : RowsU w F h D css) (hst : StayS F w w') (hF : ∀ b, F b → F' b) : RowsU w' F' h D css :=
  ⟨hr.len, fun i x cs h1 h2 => by obtain ⟨c, h3, h4⟩ := hr.in_ i x cs h1 h2; exact ⟨c, h3, stay_tyU _ _ _ _ _ _ h4 hst (fun b hb _ => hF b hb)⟩⟩
theorem RowsU.snoc {w : World} {F : Nat → Prop} {h : Nat → List Value} {D : List Nd} {css : List (List Value)} (hr : RowsU w F h D css) {x : Nd} {c : List Value} (hc : TyU w F x.2 c) : RowsU w F h (D ++ [x]) (css ++ [h D.length ++ c]) := by
  refine ⟨by simp [hr.len], fun i y cs h1 h2 => ?_⟩
  by_cases hi : i < D.length
  · rw [List.getElem?_append_left hi] at h1
    rw [List.getElem?_append_left (by rw [hr.len]; exact hi)] at h2
    exact hr.in_ i y cs h1 h2
  · by_cases e : i = D.length
    · subst e
      simp at h1
      rw [List.getElem?_append_right (by rw [hr.len]; exact Nat.le_refl _), hr.len] at h2
      simp at h2
      subst h1 h2
      exact ⟨c, rfl, hc⟩
    · rw [List.getElem?_eq_none (by simp; omega)] at h1; cases h1
theorem map_stay {mb n : Nat} {D : DataW Unit} {w w' : World} (h : w.ownsMap Tryd.prog 9 (plainElem Tryd.prog 3) mb n D) (hk : ∀ o, w.heap[mb]? = some o → w'.heap[mb]? = some o) : w'.ownsMap Tryd.prog 9 (plainElem Tryd.prog 3) mb n D := by
  obtain ⟨es, ck, h1, h2⟩ := h
  exact ⟨es, ck, hk _ h1, h2⟩
/-- The reader in block c: at i of s, wrong at q; D was read; its trees lie in F. -/
structure nS (B c mb : Nat) (s : ByteArray) (i q : Int) (D : List Nd) (F : Nat → Prop) (w : World) : Prop where
  st : ∃ (v : Value) (css : List (List Value)), w.heap[c]? = some (.cells #[.string s, .int .i64 i, .int .i64 q, .map (some mb), v] 69 (0, 0)) ∧ w.ownsRow B 77 4 v D.length css.flatten ∧ RowsU w F (fun i => [.int .i64 (i : Int)]) D css ∧ ∀ g, v.ownBlock = some g → ¬ F g
  map : w.ownsMap Tryd.prog 9 (plainElem Tryd.prog 3) mb D.length (idxD (pKs D))
  hB : B ≤ c ∧ B ≤ mb ∧ mb ≠ c
  hF : ∀ b, F b → b < w.heap.size ∧ b ≠ c ∧ b ≠ mb
  ok : NOk D
  len : D.length ≤ 8000
/-- The blocks of its rows. -/
def nRow (c mb : Nat) (w : World) (j : Nat) : Prop := ∃ (s : ByteArray) (i q : Int) (v : Value), w.heap[c]? = some (.cells #[.string s, .int .i64 i, .int .i64 q, .map (some mb), v] 69 (0, 0)) ∧ v.ownBlock = some j
theorem nbox_inj {c mb : Nat} {w : World} {s s' : ByteArray} {i q i' q' : Int} {v v' : Value} (h : w.heap[c]? = some (.cells #[.string s, .int .i64 i, .int .i64 q, .map (some mb), v] 69 (0, 0))) (h' : w.heap[c]? = some (.cells #[.string s', .int .i64 i', .int .i64 q', .map (some mb), v'] 69 (0, 0))) : v' = v := by
  rw [h] at h'
  simp only [Option.some.injEq, Obj.cells.injEq, Array.mk.injEq, List.cons.injEq, and_true, true_and] at h'
  exact h'.2.2.2.symm
section
variable {B c mb : Nat} {s : ByteArray} {i q i' q' : Int} {D D' : List Nd} {F F0 F1 F' : Nat → Prop} {w w0 w1 w2 w' : World}
theorem nS.lt (h : nS B c mb s i q D F w) : c < w.heap.size ∧ mb < w.heap.size := by
  obtain ⟨v, css, h1, h2, h4, h5⟩ := h.st
  exact ⟨lt_of_block h1, World.ownsMap.lt h.map⟩
theorem nS.rows (h : nS B c mb s i q D F w) {j : Nat} (hj : nRow c mb w j) : B ≤ j ∧ j < w.heap.size ∧ ¬ F j ∧ j ≠ c := by
  obtain ⟨v, css, h1, h2, h4, h5⟩ := h.st
  obtain ⟨s', i', q', v', g1, g2⟩ := hj
  obtain rfl := nbox_inj h1 g1
  exact ⟨(h2.lt j g2).1, (h2.lt j g2).2, h5 j g2, fun e => own_other' h2 h1 (by decide) (e ▸ g2)⟩
theorem nS.notmap (h : nS B c mb s i q D F w) {j : Nat} (hj : nRow c mb w j) : j ≠ mb := by
  obtain ⟨v, css, h1, h2, h4, h5⟩ := h.st
  obtain ⟨s', i', q', v', g1, g2⟩ := hj
  obtain ⟨es, ck, hm, _⟩ := h.map
  obtain rfl := nbox_inj h1 g1
  exact (by
      intro e
      subst e
      rcases h2.2 with ⟨e1, _⟩ | ⟨g, cap, cur, e1, _, e3, _⟩
      · rw [e1] at g2; cases g2
      · rw [e1] at g2
        obtain rfl := Option.some.inj g2
        rw [hm] at e3
        cases e3)
/-- The state behind a step that leaves alone the box, the map, the rows and the trees. -/
theorem nS.stays (h : nS B c mb s i q D F w) (hz : w.heap.size ≤ w'.heap.size) (hk : ∀ j o, w.heap[j]? = some o → (j = c ∨ j = mb ∨ nRow c mb w j ∨ F j) → w'.heap[j]? = some o) : nS B c mb s i q D F w' := by
  obtain ⟨v, css, h1, h2, h4, h5⟩ := h.st
  refine ⟨⟨v, css, hk c _ h1 (.inl rfl), own_stay h2 (fun g o hg hb => hk g o hb (.inr (.inr (.inl ⟨_, _, _, _, h1, hg⟩)))), h4.stay ⟨hz, fun b o hb ho => hk b o ho (.inr (.inr (.inr hb)))⟩ (fun _ h => h), h5⟩, map_stay h.map (fun o ho => hk mb o ho (.inr (.inl rfl))), h.hB, fun b hb => ⟨by have := (h.hF b hb).1; omega, (h.hF b hb).2⟩, h.ok, h.len⟩
/-- The trees' blocks are none of its others. -/
theorem nS.fn (h : nS B c mb s i q D F w) : ∀ b, F b → b < w.heap.size ∧ b ≠ c ∧ b ≠ mb ∧ ¬ nRow c mb w b := fun b hb => ⟨(h.hF b hb).1, (h.hF b hb).2.1, (h.hF b hb).2.2, fun hr => (h.rows hr).2.2.1 hb⟩
/-- What a walk of the reader does. -/
structure nR (B c mb : Nat) (s : ByteArray) (i q : Int) (D : List Nd) (F0 F : Nat → Prop) (w w' : World) : Prop where
  st : nS B c mb s i q D F w'
  be : Below B w w'
  fh : ∀ b, F0 b → b < w.heap.size ∧ b ≠ c ∧ b ≠ mb ∧ ¬ nRow c mb w b
  kept : ∀ j o, w.heap[j]? = some o → j ≠ c → j ≠ mb → ¬ nRow c mb w j → w'.heap[j]? = some o
  row : ∀ j, nRow c mb w' j → nRow c mb w j ∨ w.heap.size ≤ j
  grow : ∀ b, F0 b → F b
  new : ∀ b, F b → F0 b ∨ w.heap.size ≤ b
theorem nR.refl (h : nS B c mb s i q D F w) : nR B c mb s i q D F F w w := ⟨h, Below.refl _ _, h.fn, fun _ _ h _ _ _ => h, fun _ h => .inl h, fun _ h => h, fun _ h => .inl h⟩
theorem nR.trans (h : nR B c mb s i q D F0 F1 w w1) (h' : nR B c mb s i' q' D' F1 F w1 w') : nR B c mb s i' q' D' F0 F w w' := by
  refine ⟨h'.st, h.be.trans h'.be, h.fh, fun j o e h1 h2 h3 => h'.kept j o (h.kept j o e h1 h2 h3) h1 h2 (fun h4 => ?_), fun j h4 => ?_, fun b hb => h'.grow b (h.grow b hb), fun b hb => ?_⟩
  · rcases h.row j h4 with h5 | h5
    · exact h3 h5
    · have := lt_of_block e; omega
  · rcases h'.row j h4 with h5 | h5
    · exact h.row j h5
    · have := h.be.size; exact .inr (by omega)
  · rcases h'.new b hb with h5 | h5
    · exact h.new b h5
    · have := h.be.size; exact .inr (by omega)
theorem nR.size (h : nR B c mb s i q D F0 F w w') : w.heap.size ≤ w'.heap.size := h.be.size
theorem nR.stayF (h : nR B c mb s i q D F0 F w w') : StayS F0 w w' := ⟨h.be.size, fun b o hb ho => h.kept b o ho (h.fh b hb).2.1 (h.fh b hb).2.2.1 (h.fh b hb).2.2.2⟩
/-- A step that leaves alone all blocks of w1 but those that are new since w and not the reader's. -/
theorem nR.stays (h : nR B c mb s i q D F0 F w w1) (hB : B ≤ w.heap.size) (hbe : Below B w1 w2) (X : Nat → Prop) (hX : ∀ j, X j → w.heap.size ≤ j ∧ j ≠ c ∧ j ≠ mb ∧ ¬ nRow c mb w1 j ∧ ¬ F j) (hk : ∀ j o, w1.heap[j]? = some o → ¬ X j → w2.heap[j]? = some o) : nR B c mb s i q D F0 F w w2 := by
  have hz := hbe.size
  have hs := h.st.stays hz (fun j o ho hc => hk j o ho (fun hx => by
    obtain ⟨_, h2, h3, h4, h5⟩ := hX j hx
    rcases hc with hc | hc | hc | hc
    · exact h2 hc
    · exact h3 hc
    · exact h4 hc
    · exact h5 hc))
  have hzz := h.be.size
  refine ⟨hs, h.be.trans hbe, h.fh, fun j o e h1 h2 h3 => hk j o (h.kept j o e h1 h2 h3) (fun hx => by have := (hX j hx).1; have := lt_of_block e; omega), fun j ⟨s', i', q', v, g1, g2⟩ => ?_, h.grow, h.new⟩
  · obtain ⟨v, css, h1, h2, h4, h5⟩ := h.st.st
    have h1' := hk c _ h1 (fun hx => (hX c hx).2.1 rfl)
    obtain rfl := nbox_inj h1' g1
    exact h.row j ⟨_, _, _, _, h1, g2⟩
theorem nR.below (h : nR B c mb s i q D F0 F w w1) (hB : B ≤ w.heap.size) (hb : Below w1.heap.size w1 w2) : nR B c mb s i q D F0 F w w2 := h.stays hB (hb.mono (Nat.le_trans hB h.be.size)) (fun _ => False) (fun _ h => h.elim) (fun j o ho _ => block_below ho hb)
theorem nR.drew (h : nR B c mb s i q D F0 F w w1) (hB : B ≤ w.heap.size) : nR B c mb s i q D F0 F w w1.drew := h.below hB (below_drewN (Below.refl _ _) 1)
theorem nR.alloc (h : nR B c mb s i q D F0 F w w1) (hB : B ≤ w.heap.size) (o : Obj) : nR B c mb s i q D F0 F w (w1.alloc o) := h.below hB ((Below.refl _ _).alloc (Nat.le_refl _) o)
/-- A block of one's own, outside the reader. -/
def nOut (c mb : Nat) (w : World) (F : Nat → Prop) (j : Nat) : Prop := j ≠ c ∧ j ≠ mb ∧ ¬ nRow c mb w j ∧ ¬ F j ∧ j < w.heap.size
theorem nR.out {j : Nat} (h : nR B c mb s i q D F0 F w w') (ho : nOut c mb w F0 j) : nOut c mb w' F j := by
  obtain ⟨h1, h2, h3, h4, h5⟩ := ho
  refine ⟨h1, h2, fun h6 => ?_, fun h6 => ?_, by have := h.be.size; omega⟩
  · rcases h.row j h6 with h7 | h7
    · exact h3 h7
    · omega
  · rcases h.new j h6 with h7 | h7
    · exact h4 h7
    · omega
theorem nR.keep {j : Nat} {o : Obj} (h : nR B c mb s i q D F0 F w w') (ho : nOut c mb w F0 j) (e : w.heap[j]? = some o) : w'.heap[j]? = some o := h.kept j o e ho.1 ho.2.1 ho.2.2.1
/-- A store in a block of one's own. -/
theorem nR.other {j k : Nat} (h : nR B c mb s i q D F0 F w w1) (hB : B ≤ w.heap.size) (hj : w.heap.size ≤ j) (ho : nOut c mb w1 F j) (x : Value) : nR B c mb s i q D F0 F w (w1.setCell ⟨j, k, none⟩ x) :=
  h.stays hB ((Below.refl _ _).setCell (p := ⟨j, k, none⟩) (Nat.le_trans hB hj) _) (fun y => y = j) (fun y e => by subst e; exact ⟨hj, ho.1, ho.2.1, ho.2.2.1, ho.2.2.2.1⟩) (fun y o hy hne => block_set_other hy _ _ hne)
/-- The box. -/
theorem nS.box (h : nS B c mb s i q D F w) : ∃ A k, w.heap[c]? = some (.cells #[.string s, .int .i64 i, .int .i64 q, .map (some mb), (.slice A D.length k)] 69 (0, 0)) := by
  obtain ⟨v, css, h1, h2, h4, h5⟩ := h.st
  obtain ⟨A, k, rfl⟩ := own_sl h2
  exact ⟨A, k, h1⟩
theorem nS.c0 (h : nS B c mb s i q D F w) : w.cell? ⟨c, 0, none⟩ = some (.string s) := by
  obtain ⟨v, css, h1, h2, h4, h5⟩ := h.st
  exact block_cell h1 0
theorem nS.c1 (h : nS B c mb s i q D F w) : w.cell? ⟨c, 1, none⟩ = some (.int .i64 i) := by
  obtain ⟨v, css, h1, h2, h4, h5⟩ := h.st
  exact block_cell h1 1
theorem nS.c2 (h : nS B c mb s i q D F w) : w.cell? ⟨c, 2, none⟩ = some (.int .i64 q) := by
  obtain ⟨v, css, h1, h2, h4, h5⟩ := h.st
  exact block_cell h1 2
theorem nS.c3 (h : nS B c mb s i q D F w) : w.cell? ⟨c, 3, none⟩ = some (.map (some mb)) := by
  obtain ⟨v, css, h1, h2, h4, h5⟩ := h.st
  exact block_cell h1 3
theorem nS.f (h : nS B c mb s i q D F w) (k : Nat) : w.frozen? ⟨c, k, none⟩ = false := by
  obtain ⟨v, css, h1, h2, h4, h5⟩ := h.st
  exact block_free h1 k
/-- A store in the box. -/
theorem nR.set1 (h : nR B c mb s i q D F0 F w w1) (hB : B ≤ w.heap.size) (x : Int) : nR B c mb s x q D F0 F w (w1.setCell ⟨c, 1, none⟩ (.int .i64 x)) := by
  obtain ⟨v, css, h1, h2, h4, h5⟩ := h.st.st
  have hset := block_set h1 (i := 1) (.int .i64 x)
  have ho : ∀ j o, w1.heap[j]? = some o → j ≠ c → (w1.setCell ⟨c, 1, none⟩ (.int .i64 x)).heap[j]? = some o := fun j o e hj => block_set_other e _ _ hj
  have hr : ∀ j, nRow c mb (w1.setCell ⟨c, 1, none⟩ (.int .i64 x)) j → nRow c mb w1 j := fun j ⟨s', i', q', v', g1, g2⟩ => by
    obtain rfl := nbox_inj hset g1
    exact ⟨_, _, _, _, h1, g2⟩
  have hne : ∀ g, v.ownBlock = some g → g ≠ c := fun g hg => (h.st.rows ⟨_, _, _, _, h1, hg⟩).2.2.2
  have hst : StayS F w1 (w1.setCell ⟨c, 1, none⟩ (.int .i64 x)) := ⟨by simp, fun b o hb e => ho b o e (h.st.hF b hb).2.1⟩
  refine ⟨⟨⟨v, css, hset, own_stay h2 (fun g o hg e => ho g o e (hne g hg)), h4.stay hst (fun _ h => h), h5⟩, map_stay h.st.map (fun o e => ho mb o e h.st.hB.2.2), h.st.hB, fun b hb => ⟨by simpa using (h.st.hF b hb).1, (h.st.hF b hb).2⟩, h.st.ok, h.st.len⟩, h.be.setCell (p := ⟨c, 1, none⟩) h.st.hB.1 _, h.fh, fun j o e h1 h2 h3 => ho j o (h.kept j o e h1 h2 h3) h1, fun j hj => h.row j (hr j hj), h.grow, h.new⟩
/-- A store in the box. -/
theorem nR.set2 (h : nR B c mb s i q D F0 F w w1) (hB : B ≤ w.heap.size) (x : Int) : nR B c mb s i x D F0 F w (w1.setCell ⟨c, 2, none⟩ (.int .i64 x)) := by
  obtain ⟨v, css, h1, h2, h4, h5⟩ := h.st.st
  have hset := block_set h1 (i := 2) (.int .i64 x)
  have ho : ∀ j o, w1.heap[j]? = some o → j ≠ c → (w1.setCell ⟨c, 2, none⟩ (.int .i64 x)).heap[j]? = some o := fun j o e hj => block_set_other e _ _ hj
  have hr : ∀ j, nRow c mb (w1.setCell ⟨c, 2, none⟩ (.int .i64 x)) j → nRow c mb w1 j := fun j ⟨s', i', q', v', g1, g2⟩ => by
    obtain rfl := nbox_inj hset g1
    exact ⟨_, _, _, _, h1, g2⟩
  have hne : ∀ g, v.ownBlock = some g → g ≠ c := fun g hg => (h.st.rows ⟨_, _, _, _, h1, hg⟩).2.2.2
  have hst : StayS F w1 (w1.setCell ⟨c, 2, none⟩ (.int .i64 x)) := ⟨by simp, fun b o hb e => ho b o e (h.st.hF b hb).2.1⟩
  refine ⟨⟨⟨v, css, hset, own_stay h2 (fun g o hg e => ho g o e (hne g hg)), h4.stay hst (fun _ h => h), h5⟩, map_stay h.st.map (fun o e => ho mb o e h.st.hB.2.2), h.st.hB, fun b hb => ⟨by simpa using (h.st.hF b hb).1, (h.st.hF b hb).2⟩, h.st.ok, h.st.len⟩, h.be.setCell (p := ⟨c, 2, none⟩) h.st.hB.1 _, h.fh, fun j o e h1 h2 h3 => ho j o (h.kept j o e h1 h2 h3) h1, fun j hj => h.row j (hr j hj), h.grow, h.new⟩
/-- Blocks of one's own, new since w, join the trees' blocks. -/
theorem nR.join (h : nR B c mb s i q D F0 F w w1) (Y : Nat → Prop) (hY : ∀ j, Y j → w.heap.size ≤ j ∧ nOut c mb w1 F j) : nR B c mb s i q D F0 (fun b => F b ∨ Y b) w w1 := by
  obtain ⟨v, css, h1, h2, h4, h5⟩ := h.st.st
  refine ⟨⟨⟨v, css, h1, h2, h4.stay (StayS.refl _ _) (fun _ h => .inl h), fun g hg hf => ?_⟩, h.st.map, h.st.hB, fun b hb => ?_, h.st.ok, h.st.len⟩, h.be, h.fh, h.kept, h.row, fun b hb => .inl (h.grow b hb), fun b hb => ?_⟩
  · rcases hf with hf | hf
    · exact h5 g hg hf
    · exact (hY g hf).2.2.2.1 ⟨_, _, _, _, h1, hg⟩
  · rcases hb with hb | hb
    · exact h.st.hF b hb
    · exact ⟨(hY b hb).2.2.2.2.2, (hY b hb).2.1, (hY b hb).2.2.1⟩
  · rcases hb with hb | hb
    · exact h.new b hb
    · exact .inr (hY b hb).1
/-- A row of one's own, outside the reader. -/
structure nLoc {α : Type} (c mb : Nat) (base : Nat) (e : TypeId) (sz : Nat) (R : World → (Nat → Prop) → α → List Value → Prop) (F : Nat → Prop) (w : World) (v : Value) (n : Nat) (l : List α) : Prop where
  own : OwnU w base e sz R F v n l
  out : ∀ g, v.ownBlock = some g → nOut c mb w F g
theorem nLoc.nil {α : Type} (c mb base : Nat) (e : TypeId) (sz : Nat) (R : World → (Nat → Prop) → α → List Value → Prop) (F : Nat → Prop) (w : World) : nLoc c mb base e sz R F w (.slice none 0 0) 0 [] := ⟨OwnU.nil _ _ _ _ _, fun g h => by cases h⟩
theorem nLoc.step {α : Type} {base sz n : Nat} {e : TypeId} {R : World → (Nat → Prop) → α → List Value → Prop} {v : Value} {l : List α} (hl : nLoc c mb base e sz R F0 w v n l) (hR : StayV R) (h : nR B c mb s i q D F0 F w w') : nLoc c mb base e sz R F w' v n l :=
  ⟨hl.own.step hR ⟨h.be.size, fun b o hb ho => by
    rcases hb with hb | hb
    · exact h.stayF.2 b o hb ho
    · exact h.keep (hl.out b hb) ho⟩ h.grow h.new, fun g hg => h.out (hl.out g hg)⟩
/-- The reader behind an append to a row of one's own. -/
theorem nR.grown (h : nR B c mb s i q D F0 F w w1) (hB : B ≤ w.heap.size) {v : Value} {wx : World} (hx : Below w1.heap.size w1 wx) (hg : wx.grownBy w2 v.ownBlock) (hv : ∀ g, v.ownBlock = some g → w.heap.size ≤ g ∧ nOut c mb w1 F g) : nR B c mb s i q D F0 F w w2 :=
  h.stays hB ((hx.mono (Nat.le_trans hB h.be.size)).grown hg (Nat.le_trans (Nat.le_trans hB h.be.size) hx.size) (fun j hj => Nat.le_trans hB (hv j hj).1)) (fun j => v.ownBlock = some j) (fun j hj => ⟨(hv j hj).1, (hv j hj).2.1, (hv j hj).2.2.1, (hv j hj).2.2.2.1, (hv j hj).2.2.2.2.1⟩)
    (fun j o ho hne => (hg.block j (by have := lt_of_block ho; have := hx.size; omega) (fun e => hne e.symm)).trans (block_below ho hx))
theorem nLoc.push {α : Type} {base sz n : Nat} {e : TypeId} {R : World → (Nat → Prop) → α → List Value → Prop} {v v' : Value} {l : List α} (hl : nLoc c mb base e sz R F w1 v n l) (hR : StayV R) (h1 : nR B c mb s i q D F0 F w w1) (h2 : nR B c mb s i q D F0 F w w2) {a : α} {cs : List Value} (hc : cs.length = sz) (ha : R w1 F a cs) {wx : World} (hx : Below w1.heap.size w1 wx)
    (ho : w2.ownsRow base e sz v' (n + 1) (hl.own.choose.flatten ++ cs)) (hg : wx.grownBy w2 v.ownBlock) (hv : v'.ownBlock = v.ownBlock ∨ v'.ownBlock = some wx.heap.size) : nLoc c mb base e sz R F w2 v' (n + 1) (l ++ [a]) := by
  have hz := hx.size
  have hzg := hg.size
  refine ⟨hl.own.push hR (fun b hb => (h1.st.hF b hb).1) hc ha hx ho hg hv, fun g e1 => ?_⟩
  obtain ⟨v, css, q1, q2, q4, q5⟩ := h1.st.st
  have hlt := (ho.lt g e1).2
  rcases hv with e2 | e2
  · rw [e2] at e1
    obtain ⟨o1, o2, o3, o4, o5⟩ := hl.out g e1
    refine ⟨o1, o2, fun ⟨s', i', q', v2, g1, g2⟩ => o3 ?_, o4, hlt⟩
    have q1' := (hg.block c (by have := lt_of_block q1; omega) (fun e3 => o1 (by rw [e1] at e3; exact (Option.some.inj e3).symm))).trans (block_below q1 hx)
    obtain rfl := nbox_inj q1' g1
    exact ⟨_, _, _, _, q1, g2⟩
  · rw [e2] at e1
    obtain rfl := Option.some.inj e1
    have hl1 := h1.st.lt
    refine ⟨by omega, by omega, fun ⟨s', i', q', v2, g1, g2⟩ => ?_, fun hf => by have := (h1.st.hF _ hf).1; omega, hlt⟩
    have q1' := (hg.block c (by omega) (fun e3 => (hl.out c e3.symm).1 rfl)).trans (block_below q1 hx)
    obtain rfl := nbox_inj q1' g1
    have := (h1.st.rows ⟨_, _, _, _, q1, g2⟩).2.1
    omega
/-- The row is full: it joins the trees. -/
theorem nLoc.done {α : Type} {base sz n : Nat} {e : TypeId} {R : World → (Nat → Prop) → α → List Value → Prop} {v : Value} {l : List α} (hl : nLoc c mb base e sz R F w1 v n l) (hR : StayV R) (hb : w.heap.size ≤ base) (h : nR B c mb s i q D F0 F w w1) :
    ∃ F', nR B c mb s i q D F0 F' w w1 ∧ (∀ b, F b → F' b) ∧ ∃ A cap, v = .slice A n cap ∧ n ≤ cap ∧ cap ≤ maxLen ∧ SlS w1 F' sz (R w1 F') A n l := by
  refine ⟨fun b => F b ∨ v.ownBlock = some b, h.join _ (fun j hj => ⟨by have := (hl.own.lt j hj).1; omega, hl.out j hj⟩), fun b hb => .inl hb, ?_⟩
  obtain ⟨A, cap, h1, h2, h3, h4⟩ := hl.own.done hR
  exact ⟨A, cap, h1, h2, h3, h4⟩
end
/-- The numbers below n. -/
def ids (n : Nat) : List Value := (List.range n).map fun i => .int .i64 ((i : Nat) : Int)
section
variable {B c mb : Nat} {s : ByteArray} {i q i' q' : Int} {D D' : List Nd} {F F0 F1 F' : Nat → Prop} {w w0 w1 w2 w' : World}
end
end Go.Proofs.YtocpmbpckbjepaaDoor
