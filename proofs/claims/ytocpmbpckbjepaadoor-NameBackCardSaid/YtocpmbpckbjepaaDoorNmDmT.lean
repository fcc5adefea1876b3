/- Trees of any depth in a set of blocks; rows that are being filled with them. No walk. -/
import Derived.Test.YtocpmbpckbjepaaDoorNmGC
import Derived.Test.YtocpmbpckbjepaaDoorNmGA
import Derived.Maps.AppendAt
namespace Go.Proofs.YtocpmbpckbjepaaDoor
open Go.RowKit
set_option linter.unusedVariables false
def TyU (w : World) (S : Nat → Prop) (t : Ty) (cs : List Value) : Prop := ∃ k, TyS w S k t cs
def PartU (w : World) (S : Nat → Prop) (p : Part) (cs : List Value) : Prop := PartS w S (TyU w S) p cs
def StayV {α : Type} (R : World → (Nat → Prop) → α → List Value → Prop) : Prop := ∀ (w w' : World) (S S' : Nat → Prop) (a : α) (cs : List Value), R w S a cs → StayS S w w' → (∀ b, S b → b < w.heap.size → S' b) → R w' S' a cs
theorem stay_tyU : StayV TyU := fun w w' S S' t cs ⟨k, h⟩ hst hS => ⟨k, TyS.stay hst hS h⟩
theorem stay_partU : StayV PartU := fun w w' S S' p cs h hst hS => PartS.stay h hst hS (fun a cs h => stay_tyU _ _ _ _ a cs h hst hS)
theorem bound_all {P : Nat → Nat → Prop} (hm : ∀ k i, P k i → P (k + 1) i) : ∀ (n : Nat), (∀ i, i < n → ∃ k, P k i) → ∃ K, ∀ i, i < n → P K i
  | 0, _ => ⟨0, fun i h => absurd h (by omega)⟩
  | n + 1, h => by
    obtain ⟨K, hK⟩ := bound_all hm n (fun i hi => h i (by omega))
    obtain ⟨k, hk⟩ := h n (by omega)
    have up : ∀ (d a i : Nat), P a i → P (a + d) i := fun d => by
      induction d with
      | zero => exact fun a i h => h
      | succ d ih => exact fun a i h => hm _ _ (ih a i h)
    refine ⟨K + k, fun i hi => ?_⟩
    by_cases e : i = n
    · subst e; rw [Nat.add_comm]; exact up K k i hk
    · exact up k K i (hK i (by omega))
theorem SlS.bound {α : Type} {w : World} {S : Nat → Prop} {sz n : Nat} {R : Nat → α → List Value → Prop} {A : Option Addr} {l : List α} (hm : ∀ k a cs, R k a cs → R (k + 1) a cs) (h : SlS w S sz (fun a cs => ∃ k, R k a cs) A n l) : ∃ k, SlS w S sz (R k) A n l := by
  by_cases hn : 0 < n
  · obtain ⟨b, o, e, hs, hlt, hc⟩ := h.cells hn
    obtain ⟨K, hK⟩ := bound_all (P := fun k i => ∀ a, l[i]? = some a → ∃ cs : List Value, R k a cs ∧ ∀ j v, cs[j]? = some v → w.cell? ⟨b, o + i * sz + j, none⟩ = some v)
      (fun k i h a ha => by obtain ⟨cs, h1, h2⟩ := h a ha; exact ⟨cs, hm k a cs h1, h2⟩) n (fun i hi => by
        have hl : i < l.length := by have := h.len; omega
        obtain ⟨cs, ⟨k, h1⟩, h2⟩ := hc i _ (List.getElem?_eq_getElem hl)
        exact ⟨k, fun a ha => by rw [List.getElem?_eq_getElem hl] at ha; obtain rfl := Option.some.inj ha; exact ⟨cs, h1, h2⟩⟩)
    refine ⟨K, h.len, fun _ => ⟨b, o, e, hs, hlt, fun i a ha => hK i ?_ a ha⟩⟩
    have := (List.getElem?_eq_some_iff.1 ha).1
    have := h.len
    omega
  · obtain rfl : n = 0 := by omega
    exact ⟨0, h.len, fun h => absurd h (by omega)⟩
theorem PartS.mono {w : World} {S : Nat → Prop} {R R' : Ty → List Value → Prop} {p : Part} {cs : List Value} (h : PartS w S R p cs) (hR : ∀ a cs, R a cs → R' a cs) : PartS w S R' p cs := h.stay (StayS.refl _ _) (fun _ h _ => h) hR
theorem PartU.bound {w : World} {S : Nat → Prop} {p : Part} {cs : List Value} (h : PartU w S p cs) : ∃ k, PartS w S (TyS w S k) p cs := by
  obtain ⟨A, n, cap, e, h1, h2, h3, h4⟩ := h
  obtain ⟨k, hk⟩ := SlS.bound (R := fun k => TyS w S k) (fun k a cs h => h.deeper) h4
  exact ⟨k, A, n, cap, e, h1, h2, h3, hk⟩
theorem parts_bound {w : World} {S : Nat → Prop} {n : Nat} {A : Option Addr} {l : List Part} (h : SlS w S 2 (PartU w S) A n l) : ∃ k, SlS w S 2 (PartS w S (TyS w S k)) A n l :=
  SlS.bound (R := fun k => PartS w S (TyS w S k)) (fun k a cs h => h.mono (fun a cs h => h.deeper)) (h.stay (StayS.refl _ _) (fun _ h _ => h) (fun a _ cs h => h.bound))
theorem tys_bound {w : World} {S : Nat → Prop} {n : Nat} {A : Option Addr} {l : List Ty} (h : SlS w S 3 (TyU w S) A n l) : ∃ k, SlS w S 3 (TyS w S k) A n l := SlS.bound (R := fun k => TyS w S k) (fun k a cs h => h.deeper) h
theorem ty_name {w : World} {S : Nat → Prop} {n cap : Nat} {A : Option Addr} {l : List Part} (h : SlS w S 2 (PartU w S) A n l) (h1 : n ≤ cap) (h2 : cap ≤ maxLen) : TyU w S (Ty.mk 1 l []) [.int .i64 1, .slice A n cap, .slice none 0 0] := by
  obtain ⟨k, hk⟩ := parts_bound h
  exact ⟨k + 1, A, n, cap, none, 0, 0, rfl, h1, h2, Nat.le_refl _, Nat.zero_le _, hk, SlS.nil _ _ _ _ _⟩
theorem ty_of {w : World} {S : Nat → Prop} {n cap : Nat} {A : Option Addr} {l : List Ty} (kd : Int) (h : SlS w S 3 (TyU w S) A n l) (h1 : n ≤ cap) (h2 : cap ≤ maxLen) : TyU w S (Ty.mk kd [] l) [.int .i64 kd, .slice none 0 0, .slice A n cap] := by
  obtain ⟨k, hk⟩ := tys_bound h
  exact ⟨k + 1, none, 0, 0, A, n, cap, rfl, Nat.le_refl _, Nat.zero_le _, h1, h2, SlS.nil _ _ _ _ _, hk⟩
theorem tyU_len {w : World} {S : Nat → Prop} {t : Ty} {cs : List Value} (h : TyU w S t cs) : ∃ (A : Option Addr) (n c : Nat) (A' : Option Addr) (n' c' : Nat), cs = [.int .i64 t.kind, .slice A n c, .slice A' n' c'] := by
  obtain ⟨k, h⟩ := h
  cases k with
  | zero => exact h.elim
  | succ k =>
    obtain ⟨A, n, c, A', n', c', e, _⟩ := h
    exact ⟨A, n, c, A', n', c', e⟩
/-- A row of one's own that is being filled; its elements are trees in blocks of F, to which the row does not belong. -/
def OwnU {α : Type} (w : World) (base : Nat) (e : TypeId) (sz : Nat) (R : World → (Nat → Prop) → α → List Value → Prop) (F : Nat → Prop) (v : Value) (n : Nat) (l : List α) : Prop :=
  ∃ css : List (List Value), w.ownsRow base e sz v n css.flatten ∧ css.length = n ∧ l.length = n ∧ (∀ (i : Nat) (a : α) (c : List Value), l[i]? = some a → css[i]? = some c → c.length = sz ∧ R w F a c) ∧ ∀ g, v.ownBlock = some g → ¬ F g
theorem own_stay {w w' : World} {base sz n : Nat} {e : TypeId} {v : Value} {xs : List Value} (h : w.ownsRow base e sz v n xs) (hk : ∀ g o, v.ownBlock = some g → w.heap[g]? = some o → w'.heap[g]? = some o) : w'.ownsRow base e sz v n xs := by
  obtain ⟨h0, h1⟩ := h
  refine ⟨h0, ?_⟩
  rcases h1 with h1 | ⟨g, cap, cur, q1, q2, q3, q4⟩
  · exact .inl h1
  · exact .inr ⟨g, cap, cur, q1, q2, hk g _ (by rw [q1]; rfl) q3, q4⟩
theorem flat_get {sz : Nat} : ∀ (css : List (List Value)) (i j : Nat) (c : List Value) (u : Value), (∀ c ∈ css, c.length = sz) → css[i]? = some c → c[j]? = some u → css.flatten[i * sz + j]? = some u := by
  intro css
  induction css with
  | nil => intro i j c u _ h; simp at h
  | cons x l ih =>
    intro i j c u hs hc hu
    have hx := hs x (by simp)
    rw [List.flatten_cons]
    cases i with
    | zero =>
      simp at hc; subst hc
      have hj : j < x.length := (List.getElem?_eq_some_iff.1 hu).1
      rw [Nat.zero_mul, Nat.zero_add, List.getElem?_append_left hj]
      exact hu
    | succ i =>
      have := ih i j c u (fun c hc => hs c (by simp [hc])) (by simpa using hc) hu
      rw [List.getElem?_append_right (by rw [hx, Nat.succ_mul]; omega), hx, Nat.succ_mul, show i * sz + sz + j - sz = i * sz + j by omega]
      exact this
section
variable {α : Type} {R : World → (Nat → Prop) → α → List Value → Prop} {F F' : Nat → Prop} {w w1 w2 : World} {base sz n : Nat} {e : TypeId} {v v' : Value} {l : List α}
theorem OwnU.nil (w : World) (base : Nat) (e : TypeId) (sz : Nat) (F : Nat → Prop) : OwnU w base e sz R F (.slice none 0 0) 0 [] := ⟨[], World.ownsRow_nil _ _ _ _, rfl, rfl, fun i a c h => by simp at h, fun g h => by cases h⟩
theorem OwnU.lt (h : OwnU w base e sz R F v n l) : ∀ k, v.ownBlock = some k → base ≤ k ∧ k < w.heap.size := h.choose_spec.1.lt
theorem OwnU.sl (h : OwnU w base e sz R F v n l) : ∃ a c, v = .slice a n c := own_sl h.choose_spec.1
theorem OwnU.nf (h : OwnU w base e sz R F v n l) : ∀ g, v.ownBlock = some g → ¬ F g := h.choose_spec.2.2.2.2
theorem OwnU.len (h : OwnU w base e sz R F v n l) : l.length = n := h.choose_spec.2.2.1
/-- The row behind a step that leaves it and its trees alone. -/
theorem OwnU.step (hR : StayV R) (h : OwnU w base e sz R F v n l) (hst : StayS (fun b => F b ∨ v.ownBlock = some b) w w1) (hF : ∀ b, F b → F' b) (hN : ∀ b, F' b → F b ∨ w.heap.size ≤ b) : OwnU w1 base e sz R F' v n l := by
  obtain ⟨css, ho, h1, h2, h3, h4⟩ := h
  refine ⟨css, own_stay ho (fun g o hg hb => hst.2 g o (.inr hg) hb), h1, h2, fun i a c ha hc => ⟨(h3 i a c ha hc).1, hR w w1 F F' a c (h3 i a c ha hc).2 ⟨hst.1, fun b o hb => hst.2 b o (.inl hb)⟩ (fun b hb _ => hF b hb)⟩, fun g hg hf => ?_⟩
  rcases hN g hf with h5 | h5
  · exact h4 g hg h5
  · have := (ho.lt g hg).2; omega
theorem OwnU.push (hR : StayV R) (h : OwnU w base e sz R F v n l) (hF : ∀ b, F b → b < w.heap.size) {a : α} {c : List Value} (hc : c.length = sz) (ha : R w F a c) {wx : World} (hx : Below w.heap.size w wx)
    (ho : w2.ownsRow base e sz v' (n + 1) (h.choose.flatten ++ c)) (hg : wx.grownBy w2 v.ownBlock) (hv : v'.ownBlock = v.ownBlock ∨ v'.ownBlock = some wx.heap.size) :
    OwnU w2 base e sz R F v' (n + 1) (l ++ [a]) := by
  have hsp := h.choose_spec
  revert ho hsp
  generalize h.choose = css
  intro ho hsp
  obtain ⟨how, h1, h2, h3, h4⟩ := hsp
  have hst : StayS F w w2 := ⟨by have := hg.size; have := hx.size; omega, fun b ob hs hbo => by
    have hlt := lt_of_block hbo
    exact (hg.block b (by have := hx.size; omega) (fun e => h4 b e.symm hs)).trans (block_below hbo hx)⟩
  refine ⟨css ++ [c], by simpa using ho, by simp [h1], by simp [h2], fun i x cs hx hcs => ?_, fun g hg hf => ?_⟩
  · by_cases hi : i < n
    · rw [List.getElem?_append_left (by omega)] at hx hcs
      exact ⟨(h3 i x cs hx hcs).1, hR w w2 _ _ x cs (h3 i x cs hx hcs).2 hst (fun _ h _ => h)⟩
    · rw [List.getElem?_append_right (by omega)] at hx hcs
      have hi0 : i - l.length = 0 := by
        rcases Nat.eq_zero_or_pos (i - l.length) with e0 | e0
        · exact e0
        · rw [List.getElem?_eq_none (by simp; omega)] at hx; cases hx
      rw [hi0] at hx
      rw [show i - css.length = 0 by omega] at hcs
      simp at hx hcs
      subst hx; subst hcs
      exact ⟨hc, hR w w2 _ _ _ _ ha hst (fun _ h _ => h)⟩
  · rcases hv with e1 | e1
    · exact h4 g (e1 ▸ hg) hf
    · rw [e1] at hg
      obtain rfl := Option.some.inj hg
      have := hF _ hf
      have := hx.size
      omega
/-- The row, full. -/
theorem OwnU.done (hR : StayV R) (h : OwnU w base e sz R F v n l) : ∃ A cap, v = .slice A n cap ∧ n ≤ cap ∧ cap ≤ maxLen ∧ SlS w (fun b => F b ∨ v.ownBlock = some b) sz (R w (fun b => F b ∨ v.ownBlock = some b)) A n l := by
  obtain ⟨css, how, h1, h2, h3, h4⟩ := h
  rcases how.2 with ⟨rfl, h0⟩ | ⟨g, cap, cur, rfl, hg, hh, hnc, hcm, _, _⟩
  · subst h0
    obtain rfl : l = [] := List.eq_nil_of_length_eq_zero h2
    exact ⟨none, 0, rfl, Nat.le_refl _, Nat.zero_le _, SlS.nil _ _ _ _ _⟩
  · refine ⟨some ⟨g, 0, none⟩, cap, rfl, hnc, hcm, h2, fun hn => ⟨g, 0, rfl, .inr rfl, lt_of_block hh, fun i a ha => ?_⟩⟩
    have hi : i < css.length := by have := (List.getElem?_eq_some_iff.1 ha).1; omega
    have hcs := List.getElem?_eq_getElem hi
    have h4 := h3 i a _ ha hcs
    refine ⟨css[i], hR w w _ _ a _ h4.2 (StayS.refl _ _) (fun b hb _ => .inl hb), fun j u hu => ?_⟩
    have hall : ∀ c ∈ css, c.length = sz := fun c hc => by
      obtain ⟨k, hk, rfl⟩ := List.mem_iff_getElem.1 hc
      exact (h3 k _ _ (List.getElem?_eq_getElem (by omega)) (List.getElem?_eq_getElem hk)).1
    have hk := flat_get css i j _ u hall hcs hu
    rw [Nat.zero_add]
    exact own_cell how (i * sz + j) u hk
end
end Go.Proofs.YtocpmbpckbjepaaDoor
