/- Blocks and rows of one's own beside the readers of mangled names; steps of the plain reader of parts (printed by gen_dd.py). No walk. -/
import Derived.Test.YtocpmbpckbjepaaDoorNmDmS
namespace Go.Proofs.YtocpmbpckbjepaaDoor
open Go.RowKit
set_option linter.unusedVariables false
set_option linter.unusedSimpArgs false
section
variable {B c mb : Nat} {s : ByteArray} {i q i' q' : Int} {D D' : List Nd} {F F0 F1 F' : Nat → Prop} {w w0 w1 w2 w' : World}
theorem nRow_keep (h : nS B c mb s i q D F w) (hk : ∀ o, w.heap[c]? = some o → w1.heap[c]? = some o) {j : Nat} (hj : nRow c mb w1 j) : nRow c mb w j := by
  obtain ⟨v, css, h1, h2, h4, h5⟩ := h.st
  obtain ⟨s', i', q', v', g1, g2⟩ := hj
  obtain rfl := nbox_inj (hk _ h1) g1
  exact ⟨_, _, _, _, h1, g2⟩
theorem nOut.new (h : nS B c mb s i q D F w) (o : Obj) : nOut c mb (w.alloc o) F w.heap.size := by
  have hl := h.lt
  refine ⟨by omega, by omega, fun hr => ?_, fun hf => by have := (h.hF _ hf).1; omega, by simp⟩
  have := (h.rows (nRow_keep h (fun o' ho => block_below ho ((Below.refl _ _).alloc (Nat.le_refl _) o)) hr)).2.1
  omega
theorem nOut.set (h : nS B c mb s i q D F w) {j b k : Nat} (ho : nOut c mb w F j) (hb : b ≠ c) (x : Value) : nOut c mb (w.setCell ⟨b, k, none⟩ x) F j :=
  ⟨ho.1, ho.2.1, fun hr => ho.2.2.1 (nRow_keep h (fun o' h' => block_set_other h' _ _ (fun e => hb e.symm)) hr), ho.2.2.2.1, by simpa using ho.2.2.2.2⟩
/-- A block of one's own, and what lies in it. -/
def nBk (c mb : Nat) (w : World) (F : Nat → Prop) (j : Nat) (o : Obj) : Prop := w.heap[j]? = some o ∧ nOut c mb w F j
theorem nBk.new (h : nS B c mb s i q D F w) (o : Obj) : nBk c mb (w.alloc o) F w.heap.size o := ⟨heap_alloc_new w o, nOut.new h o⟩
theorem nBk.step {j : Nat} {o : Obj} (h : nBk c mb w F0 j o) (hr : nR B c mb s i q D F0 F w w') : nBk c mb w' F j o := ⟨hr.keep h.2 h.1, hr.out h.2⟩
theorem nBk.set {j k : Nat} {cs : Array Value} {ty : TypeId} {fr : Nat × Nat} (h : nBk c mb w F j (.cells cs ty fr)) (hs : nS B c mb s i q D F w) (x : Value) : nBk c mb (w.setCell ⟨j, k, none⟩ x) F j (.cells (cs.setIfInBounds k x) ty fr) := ⟨block_set h.1 x, nOut.set hs h.2 h.2.1 x⟩
theorem nBk.other {j b k : Nat} {o : Obj} (h : nBk c mb w F j o) (hs : nS B c mb s i q D F w) (hb : b ≠ c) (hne : j ≠ b) (x : Value) : nBk c mb (w.setCell ⟨b, k, none⟩ x) F j o := ⟨block_set_other h.1 _ _ hne, nOut.set hs h.2 hb x⟩
/-- The reader and a row of one's own. -/
structure nJ {α : Type} (B c mb : Nat) (s : ByteArray) (e : TypeId) (sz : Nat) (R : World → (Nat → Prop) → α → List Value → Prop) (F0 : Nat → Prop) (w : World) (i q : Int) (D : List Nd) (F : Nat → Prop) (w1 : World) (v : Value) (n : Nat) (l : List α) : Prop where
  r : nR B c mb s i q D F0 F w w1
  l : nLoc c mb w.heap.size e sz R F w1 v n l
variable {α : Type} {e : TypeId} {sz n : Nat} {R : World → (Nat → Prop) → α → List Value → Prop} {v v' : Value} {l : List α}
theorem nJ.adv (h : nJ B c mb s e sz R F0 w i q D F w1 v n l) (hR : StayV R) (hr : nR B c mb s i' q' D' F F' w1 w2) : nJ B c mb s e sz R F0 w i' q' D' F' w2 v n l := ⟨h.r.trans hr, h.l.step hR hr⟩
theorem nJ.nw (h : nJ B c mb s e sz R F0 w i q D F w1 v n l) : v.ownBlock ≠ some w1.heap.size := own_before h.l.own.choose_spec.1 (Nat.le_refl _)
/-- A store in a block of one's own that is not the row's. -/
theorem nJ.other {j k : Nat} (h : nJ B c mb s e sz R F0 w i q D F w1 v n l) (hR : StayV R) (hB : B ≤ w.heap.size) (hj : w.heap.size ≤ j) (ho : nOut c mb w1 F j) (hne : v.ownBlock ≠ some j) (x : Value) : nJ B c mb s e sz R F0 w i q D F (w1.setCell ⟨j, k, none⟩ x) v n l := by
  refine ⟨h.r.other hB hj ho x, ⟨h.l.own.step hR ⟨by simp, fun b o hb hbo => block_set_other hbo _ _ (fun (e : b = j) => ?_)⟩ (fun _ h => h) (fun _ h => .inl h), fun g hg => nOut.set h.r.st (h.l.out g hg) ho.1 x⟩⟩
  rcases hb with hb | hb
  · exact ho.2.2.2.1 (e ▸ hb)
  · exact hne (e ▸ hb)
theorem nJ.push (h : nJ B c mb s e sz R F0 w i q D F w1 v n l) (hR : StayV R) (hB : B ≤ w.heap.size) {a : α} {cs : List Value} (hc : cs.length = sz) (ha : R w1 F a cs) {wx : World} (hx : Below w1.heap.size w1 wx)
    (ho : w2.ownsRow w.heap.size e sz v' (n + 1) (h.l.own.choose.flatten ++ cs)) (hg : wx.grownBy w2 v.ownBlock) (hv : v'.ownBlock = v.ownBlock ∨ v'.ownBlock = some wx.heap.size) : nJ B c mb s e sz R F0 w i q D F w2 v' (n + 1) (l ++ [a]) := by
  have h2 := h.r.grown hB hx hg (fun g hg' => ⟨(h.l.own.lt g hg').1, h.l.out g hg'⟩)
  exact ⟨h2, h.l.push hR h.r h2 hc ha hx ho hg hv⟩
/-- The reader alone, behind an append to the row. -/
theorem nJ.grow (h : nJ B c mb s e sz R F0 w i q D F w1 v n l) (hB : B ≤ w.heap.size) {wx : World} (hx : Below w1.heap.size w1 wx) (hg : wx.grownBy w2 v.ownBlock) : nR B c mb s i q D F0 F w w2 := h.r.grown hB hx hg (fun g hg' => ⟨(h.l.own.lt g hg').1, h.l.out g hg'⟩)
theorem nJ.done (h : nJ B c mb s e sz R F0 w i q D F w1 v n l) (hR : StayV R) : ∃ F', nR B c mb s i q D F0 F' w w1 ∧ (∀ b, F b → F' b) ∧ ∃ A cap, v = .slice A n cap ∧ n ≤ cap ∧ cap ≤ maxLen ∧ SlS w1 F' sz (R w1 F') A n l := h.l.done hR (Nat.le_refl _) h.r
end
section
variable {B c mb : Nat} {s : ByteArray} {i q i' q' : Int} {D D' : List Nd} {F F0 F1 F' : Nat → Prop} {w w0 w1 w2 w' : World}
variable {α : Type} {e : TypeId} {sz n : Nat} {R : World → (Nat → Prop) → α → List Value → Prop} {v v' : Value} {l : List α}
end
section
variable {s : ByteArray} {one : List Nd → Nat → Res (Nat × Ty × List Nd)} {g : Nat} {acc : List Part} {sh : List (ByteArray × List Nat)} {D : List Nd} {i j k e : Nat} {x : ByteArray} {y : List Ty × List Nat × List Nd}
theorem dParts_end (h0 : acc.length ≠ 0) (h : s.data.toList[i]? = some 69) : dParts s one (g + 1) acc sh D i = .ok (i + 1) (acc, sh, D) := by
  rw [dParts, if_pos ⟨h0, h⟩]
theorem dParts_bad (h0 : ¬ (acc.length ≠ 0 ∧ s.data.toList[i]? = some 69)) (h : dId s i = .bad e) : dParts s one (g + 1) acc sh D i = .bad e := by
  rw [dParts, if_neg h0, h]; rfl
theorem dParts_no (h0 : ¬ (acc.length ≠ 0 ∧ s.data.toList[i]? = some 69)) (h : dId s i = .ok j x) (hI : ¬ s.data.toList[j]? = some 73) : dParts s one (g + 1) acc sh D i = dParts s one g (acc ++ [(x, [])]) (sh ++ [(x, [])]) D j := by
  rw [dParts, if_neg h0, h]; simp only [Res.bind]; rw [dArgs, if_neg hI]
theorem dParts_in (h0 : ¬ (acc.length ≠ 0 ∧ s.data.toList[i]? = some 69)) (h : dId s i = .ok j x) (hI : s.data.toList[j]? = some 73) (hT : dTys s one (s.size + 1) [] [] D (j + 1) = .bad e) : dParts s one (g + 1) acc sh D i = .bad e := by
  rw [dParts, if_neg h0, h]; simp only [Res.bind]; rw [dArgs, if_pos hI, hT]
theorem dParts_go (h0 : ¬ (acc.length ≠ 0 ∧ s.data.toList[i]? = some 69)) (h : dId s i = .ok j x) (hI : s.data.toList[j]? = some 73) (hT : dTys s one (s.size + 1) [] [] D (j + 1) = .ok k y) : dParts s one (g + 1) acc sh D i = dParts s one g (acc ++ [(x, y.1)]) (sh ++ [(x, y.2.1)]) y.2.2 k := by
  rw [dParts, if_neg h0, h]; simp only [Res.bind]; rw [dArgs, if_pos hI, hT]
end
/-- What types answers on. -/
structure TysGo (s : ByteArray) (D : List Nd) (i j : Nat) (x : List Ty × List Nat × List Nd) : Prop where
  lt : i + 1 ≤ j
  le : j ≤ s.size
  ext : Ext D x.2.2 (i + 1) j
  len : x.1.length = x.2.1.length
  pos : 0 < x.2.1.length
theorem tys_go {s : ByteArray} {f : Nat} {D : List Nd} {i j : Nat} {x : List Ty × List Nat × List Nd} (hi : i ≤ s.size) (hD : NOk D) (h : dTys s (dOne s f) (s.size + 1) [] [] D i = .ok j x) : TysGo s D i j x := by
  have := dTys_out (dOne_out s f) (s.size + 1) [] [] D i hi hD rfl (by simp)
  rw [h] at this
  exact ⟨this.1, this.2.1, this.2.2.1, this.2.2.2.1, this.2.2.2.2.1⟩
theorem pParts_snoc (l : List (ByteArray × List Nat)) (p : ByteArray × List Nat) : pPartsK (l ++ [p]) = pPartsK l ++ (pBody p ++ [46]) := by unfold pPartsK; rw [List.flatMap_append]; simp
theorem rParts_snoc (l : List (ByteArray × List Nat)) (p : ByteArray × List Nat) : rPartsK (l ++ [p]) = rPartsK l ++ (46 :: pBody p) := by unfold rPartsK; rw [List.flatMap_append]; simp
theorem pBody_nil (x : ByteArray) : pBody (x, []) = x.data.toList := by simp [pBody]
theorem pBody_some {x : ByteArray} {l : List Nat} (h : 0 < l.length) : pBody (x, l) = x.data.toList ++ (60 :: (pIds l ++ [62])) := by unfold pBody; rw [if_neg (by simp only; omega)]
/-- A part, as it stands in memory. -/
theorem part_no {w : World} {F : Nat → Prop} (x : ByteArray) (hx : x.size ≤ 60) : PartU w F (x, []) [.string x, .slice none 0 0] := ⟨none, 0, 0, rfl, (by unfold maxLen; omega : x.size ≤ maxLen), Nat.le_refl _, Nat.zero_le _, SlS.nil _ _ _ _ _⟩
theorem part_go {w : World} {F : Nat → Prop} (x : ByteArray) (hx : x.size ≤ 60) {A : Option Addr} {n q : Nat} {l : List Ty} (h1 : n ≤ q) (h2 : q ≤ maxLen) (h : SlS w F 3 (TyU w F) A n l) : PartU w F (x, l) [.string x, .slice A n q] := ⟨A, n, q, rfl, (by unfold maxLen; omega : x.size ≤ maxLen), h1, h2, h⟩
end Go.Proofs.YtocpmbpckbjepaaDoor
