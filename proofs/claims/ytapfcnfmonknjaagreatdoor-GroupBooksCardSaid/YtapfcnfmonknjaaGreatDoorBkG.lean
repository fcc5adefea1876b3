/- Groups under way: objects behind a map, a row of prints behind each. -/
import Derived.Test.YtapfcnfmonknjaaGreatDoorBkSr
import Derived.Maps.AppendAt
namespace Go.Proofs.YtapfcnfmonknjaaGreatDoor.Bk
open Go.RowKit Go.Maps Go.Sort
set_option linter.unusedVariables false
set_option linter.unusedSimpArgs false
def upd {α : Type} (f : Int → α) (i : Int) (x : α) (j : Int) : α := if j = i then x else f j
theorem upd_same {α : Type} (f : Int → α) (i : Int) (x : α) : upd f i x i = x := if_pos rfl
theorem upd_other {α : Type} (f : Int → α) {i j : Int} (x : α) (h : j ≠ i) : upd f i x j = f j := if_neg h
def Gr.arr (g : Gr) (v : Value) : Array Value := #[.int .i64 g.id, v, .int .i64 g.ev, .int .i64 g.wt, .int .i64 g.fi, .int .i64 g.la]
/-- The groups is lie in w: block gk i, row of prints gv i, each with what gd i says; the map (block b) leads to them. -/
structure GM (B : Nat) (w : World) (b n : Nat) (D : DataW Unit) (is : List Int) (gk : Int → Nat) (gv : Int → Value) (gd : Int → Gr) : Prop where
  own : w.ownsMap Tryz.prog 3 ptE b n D
  map : MapK (Lit.int .i64) is gk D
  nd : is.Nodup
  id : ∀ i ∈ is, (gd i).id = i
  cell : ∀ i ∈ is, w.heap[gk i]? = some (.cells ((gd i).arr (gv i)) 44 (0, 0))
  row : ∀ i ∈ is, w.ownsRow B 9 1 (gv i) (gd i).ps.length ((gd i).ps.map encStr)
  inj : ∀ i ∈ is, ∀ j ∈ is, gk i = gk j → i = j
  apart : ∀ i ∈ is, ∀ j ∈ is, i ≠ j → (gv i).ownBlock = none ∨ (gv i).ownBlock ≠ (gv j).ownBlock
  lo : ∀ i ∈ is, B ≤ gk i
  bl : b < B
section
variable {B b n : Nat} {w w' : World} {D D' : DataW Unit} {is : List Int} {gk : Int → Nat} {gv : Int → Value} {gd : Int → Gr}
theorem row_blkB {w : World} {base sz n k : Nat} {e : TypeId} {v : Value} {xs : List Value} (h : w.ownsRow base e sz v n xs) (hk : v.ownBlock = some k) : ∃ cur, w.heap[k]? = some (.cells cur e (0, 0)) := by
  rcases h.2 with h1 | ⟨g, cap, cur, q1, q2, q3, q4⟩
  · rw [h1.1] at hk; cases hk
  · rw [q1] at hk
    obtain rfl : g = k := Option.some.inj hk
    exact ⟨cur, q3⟩
theorem own_stayB {w w' : World} {base sz n : Nat} {e : TypeId} {v : Value} {xs : List Value} (ho : w.ownsRow base e sz v n xs) (h : ∀ k o, v.ownBlock = some k → w.heap[k]? = some o → w'.heap[k]? = some o) : w'.ownsRow base e sz v n xs := by
  refine ⟨ho.1, ?_⟩
  rcases ho.2 with h1 | ⟨g, cap, cur, q1, q2, q3, q4⟩
  · exact .inl h1
  · exact .inr ⟨g, cap, cur, q1, q2, h g _ (by rw [q1]; rfl) q3, q4⟩
/-- The blocks of the groups. -/
def GB (b : Nat) (is : List Int) (gk : Int → Nat) (gv : Int → Value) (k : Nat) : Prop := k = b ∨ (∃ i ∈ is, k = gk i) ∨ ∃ i ∈ is, (gv i).ownBlock = some k
theorem GM.keep (h : GM B w b n D is gk gv gd) (hk : ∀ k o, GB b is gk gv k → w.heap[k]? = some o → w'.heap[k]? = some o) : GM B w' b n D is gk gv gd :=
  ⟨owns_stay h.own fun o => hk b o (.inl rfl), h.map, h.nd, h.id, fun i hi => hk _ _ (.inr (.inl ⟨i, hi, rfl⟩)) (h.cell i hi), fun i hi => own_stayB (h.row i hi) fun k o e => hk k o (.inr (.inr ⟨i, hi, e⟩)), h.inj, h.apart, h.lo, h.bl⟩
theorem GM.below (h : GM B w b n D is gk gv gd) (hb : Below w.heap.size w w') : GM B w' b n D is gk gv gd := h.keep fun k o _ e => block_below e hb
theorem GM.lt (h : GM B w b n D is gk gv gd) {k : Nat} (hk : GB b is gk gv k) : k < w.heap.size := by
  rcases hk with rfl | ⟨i, hi, rfl⟩ | ⟨i, hi, e⟩
  · exact h.own.lt
  · exact lt_of_block (h.cell i hi)
  · exact ((h.row i hi).lt k e).2
/-- A row's block is neither the map nor an object. -/
theorem GM.rsep (h : GM B w b n D is gk gv gd) {i j : Int} (hi : i ∈ is) (hj : j ∈ is) : (gv i).ownBlock ≠ some (gk j) ∧ (gv i).ownBlock ≠ some b := by
  refine ⟨own_other' (h.row i hi) (h.cell j hj) (by decide), fun e => ?_⟩
  have := ((h.row i hi).lt b e).1
  have := h.bl
  omega
/-- The object i and its row have turned; all else is as it was. -/
theorem GM.set (h : GM B w b n D is gk gv gd) {i : Int} (hi : i ∈ is) (g : Gr) (v : Value) (hg : g.id = i) (hblk : w'.heap[gk i]? = some (.cells (g.arr v) 44 (0, 0)))
    (hrow : w'.ownsRow B 9 1 v g.ps.length (g.ps.map encStr)) (hv : v.ownBlock = (gv i).ownBlock ∨ ∃ k, w.heap.size ≤ k ∧ v.ownBlock = some k)
    (ho : ∀ k o, w.heap[k]? = some o → k ≠ gk i → (gv i).ownBlock ≠ some k → w'.heap[k]? = some o) : GM B w' b n D is gk (upd gv i v) (upd gd i g) := by
  have hbne : gk i ≠ b := fun e => by have := h.lo i hi; have := h.bl; omega
  refine ⟨owns_stay h.own fun o e => ho b o e hbne.symm (h.rsep hi hi).2, h.map, h.nd, fun j hj => ?_, fun j hj => ?_, fun j hj => ?_, h.inj, fun j hj k hk hne => ?_, h.lo, h.bl⟩
  · by_cases e : j = i
    · subst e; rw [upd_same]; exact hg
    · rw [upd_other _ _ e]; exact h.id j hj
  · by_cases e : j = i
    · subst e; rw [upd_same, upd_same]; exact hblk
    · rw [upd_other _ _ e, upd_other _ _ e]
      exact ho _ _ (h.cell j hj) (fun e2 => e (h.inj j hj i hi e2)) (h.rsep hi hj).1
  · by_cases e : j = i
    · subst e; rw [upd_same, upd_same]; exact hrow
    · rw [upd_other _ _ e, upd_other _ _ e]
      refine own_stayB (h.row j hj) fun k o e2 e3 => ho k o e3 (fun e4 => (h.rsep hj hi).1 (by rw [e2, e4])) (fun e4 => ?_)
      rcases h.apart j hj i hi e with h5 | h5
      · rw [h5] at e2; cases e2
      · exact h5 (by rw [e2, e4])
  · have hnew : ∀ j ∈ is, j ≠ i → (gv j).ownBlock = none ∨ (gv j).ownBlock ≠ v.ownBlock := fun j hj e => by
      rcases hv with hv | ⟨k, hk, hv⟩
      · rw [hv]; exact h.apart j hj i hi e
      · cases e5 : (gv j).ownBlock with
        | none => exact .inl rfl
        | some x => exact .inr fun e6 => by rw [hv] at e6; cases e6; have := ((h.row j hj).lt _ e5).2; omega
    by_cases e : j = i
    · subst e
      rw [upd_same, upd_other _ _ (Ne.symm hne)]
      rcases hnew k hk (Ne.symm hne) with h5 | h5
      · cases e6 : v.ownBlock with
        | none => exact .inl rfl
        | some x => exact .inr (by rw [h5]; simp)
      · exact .inr (Ne.symm h5)
    · rw [upd_other _ _ e]
      by_cases e2 : k = i
      · subst e2; rw [upd_same]; exact hnew j hj e
      · rw [upd_other _ _ e2]; exact h.apart j hj k hk hne
/-- A group more, with no prints yet. -/
theorem GM.new (h : GM B w b n D is gk gv gd) {i : Int} (hi : i ∉ is) (g : Gr) (hg : g.id = i) (hps : g.ps = []) {k : Nat} (hk : w.heap.size ≤ k) (hB : B ≤ k)
    (hblk : w'.heap[k]? = some (.cells (g.arr (.slice none 0 0)) 44 (0, 0))) (hown : w'.ownsMap Tryz.prog 3 ptE b (n + 1) (D.put (.int .i64 i) (.lit (.int .i64 (k : Int)))))
    (ho : ∀ k o, w.heap[k]? = some o → k ≠ b → w'.heap[k]? = some o) (hlk : Keyed Tryz.prog 3) : GM B w' b (n + 1) (D.put (.int .i64 i) (.lit (.int .i64 (k : Int)))) (is ++ [i]) (upd gk i k) (upd gv i (.slice none 0 0)) (upd gd i g) := by
  have hin : ∀ j ∈ is ++ [i], (j ∈ is ∧ j ≠ i) ∨ j = i := fun j hj => by
    rcases List.mem_append.1 hj with hj | hj
    · exact .inl ⟨hj, fun e => hi (e ▸ hj)⟩
    · exact .inr (by simpa using hj)
  have hbne : ∀ j ∈ is, gk j ≠ b := fun j hj e => by have := h.lo j hj; have := h.bl; omega
  have hlt : ∀ j ∈ is, gk j < k := fun j hj => Nat.lt_of_lt_of_le (lt_of_block (h.cell j hj)) hk
  refine ⟨hown, ?_, ?_, fun j hj => ?_, fun j hj => ?_, fun j hj => ?_, fun j hj x hx e => ?_, fun j hj x hx hne => ?_, fun j hj => ?_, h.bl⟩
  · exact h.map.put enc_int hi trivial (h.own.tidy hlk) k
  · rw [List.nodup_append]
    exact ⟨h.nd, by simp, fun a ha c hc => by simp at hc; subst hc; exact fun e => hi (e ▸ ha)⟩
  · rcases hin j hj with ⟨h1, h2⟩ | rfl
    · rw [upd_other _ _ h2]; exact h.id j h1
    · rw [upd_same]; exact hg
  · rcases hin j hj with ⟨h1, h2⟩ | rfl
    · rw [upd_other _ _ h2, upd_other _ _ h2, upd_other _ _ h2]; exact ho _ _ (h.cell j h1) (hbne j h1)
    · rw [upd_same, upd_same, upd_same]; exact hblk
  · rcases hin j hj with ⟨h1, h2⟩ | rfl
    · rw [upd_other _ _ h2, upd_other _ _ h2]
      exact own_stayB (h.row j h1) fun c o e2 e3 => ho c o e3 (fun e4 => (h.rsep h1 h1).2 (by rw [e2, e4]))
    · rw [upd_same, upd_same, hps]; exact World.ownsRow_nil _ _ _ _
  · rcases hin j hj with ⟨h1, h2⟩ | rfl
    · rcases hin x hx with ⟨h3, h4⟩ | rfl
      · rw [upd_other _ _ h2, upd_other _ _ h4] at e; exact h.inj j h1 x h3 e
      · rw [upd_other _ _ h2, upd_same] at e; have := hlt j h1; omega
    · rcases hin x hx with ⟨h3, h4⟩ | rfl
      · rw [upd_other _ _ h4, upd_same] at e; have := hlt x h3; omega
      · rfl
  · rcases hin j hj with ⟨h1, h2⟩ | rfl
    · rw [upd_other _ _ h2]
      rcases hin x hx with ⟨h3, h4⟩ | rfl
      · rw [upd_other _ _ h4]; exact h.apart j h1 x h3 hne
      · rw [upd_same]
        cases e6 : (gv j).ownBlock with
        | none => exact .inl rfl
        | some y => exact .inr (by simp [Value.ownBlock])
    · rw [upd_same]; exact .inl rfl
  · rcases hin j hj with ⟨h1, h2⟩ | rfl
    · rw [upd_other _ _ h2]; exact h.lo j h1
    · rw [upd_same]; exact hB
end
end Go.Proofs.YtapfcnfmonknjaaGreatDoor.Bk
