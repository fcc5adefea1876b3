/- A slice that came in, opened to a Lean list. No program of its own: over the seat's program. -/
import Derived.Test.YtnkccilgbhogbaaDoorProg
import Derived.Test.YtnkccilgbhogbaaDoorMem
import Derived.ProofKit
import Derived.Deep.Slices
import Derived.Lib.SmallJoins
namespace Go.Proofs.YtnkccilgbhogbaaDoor
open Go.RowKit Go.ChangeShapes Go.WideShapes Go.Deep
theorem list_of {α : Type} {P : Nat → α → Prop} : ∀ m : Nat, (∀ i, i < m → ∃ a, P i a) → ∃ l : List α, l.length = m ∧ ∀ i a, l[i]? = some a → P i a := by
  intro m
  induction m with
  | zero => intro _; exact ⟨[], rfl, by simp⟩
  | succ m ih =>
    intro h
    obtain ⟨l, hl, hp⟩ := ih fun i hi => h i (by omega)
    obtain ⟨a, ha⟩ := h m (by omega)
    refine ⟨l ++ [a], by simp [hl], fun i b hb => ?_⟩
    by_cases hi : i < m
    · rw [List.getElem?_append_left (by omega)] at hb; exact hp i b hb
    · rw [List.getElem?_append_right (by omega)] at hb
      have : i - l.length = 0 := by
        rcases Nat.eq_zero_or_pos (i - l.length) with h0 | h0
        · exact h0
        · rw [List.getElem?_eq_none (by simp; omega)] at hb; cases hb
      rw [this] at hb
      simp at hb
      subst hb
      rwa [show i = m by omega]
section
variable {α : Type} {H : Type} {enc : TypeId × Value → H} {w : World} {base b0 : Nat} {v : Value} {d : DataW H} {p : List MemPlace} {r : Reach}
set_option maxRecDepth 100000 in
/-- What an element reads as is told by `hel`; G: what is known of each. -/
theorem open_sl {t e sz : Nat} (f : α → List Value) (G : α → Prop) (ht : Tryd.prog.underlying t = some (.slice e)) (hC : Tryd.prog.cellsOf e = sz) (hsz : 0 < sz) (hf : ∀ a, (f a).length = sz)
    (hel : ∀ (n : Nat) (cs : List Value) (x : DataW H × List MemPlace), DataW.trod enc Tryd.prog w 0 (fun _ => true) true n e cs = some x → ∃ a, cs = f a ∧ G a)
    (hv : Value.okWide Tryd.prog w r b0 t v) (h : DataW.Trod enc Tryd.prog w 0 (fun _ => true) true t v d p) :
    ∃ (A : Option Addr) (n cap : Nat) (l : List α), v = .slice A n cap ∧ Sl w w.heap.size f sz A n l ∧ n ≤ cap ∧ cap ≤ maxLen ∧ ∀ a ∈ l, G a := by
  obtain ⟨A, n, cap, rfl⟩ := okWide_slice ht hv
  obtain ⟨fuel, hfu⟩ := h
  rcases open_slice ht hfu with ⟨hcs, _⟩ | ⟨a, len, cap', m, k, D, Pl, hcs, _, hl, hm, hmm, _, hi⟩
  · simp [Value.cells] at hcs
    obtain ⟨rfl, rfl, rfl⟩ := hcs
    exact ⟨none, 0, 0, [], rfl, Sl.nil _ _ _ _ _, Nat.le_refl _, Nat.zero_le _, by simp⟩
  · simp [Value.cells] at hcs
    obtain ⟨rfl, rfl, rfl⟩ := hcs
    have hm' : m = cap := by simpa using hmm
    obtain ⟨l, hlen, hP⟩ := list_of (P := fun i (x : α) => G x ∧ ∀ j u, (f x)[j]? = some u → w.cell? ((a.add (i * sz)).add j) = some u) n (fun i hin => by
      obtain ⟨cs', hc', ht'⟩ := hi i (by omega)
      obtain ⟨x, rfl, hG⟩ := hel _ _ _ ht'
      obtain ⟨_, hcl, hat⟩ := World.cells?_some hc'
      rw [hC] at hcl hat hc'
      refine ⟨x, hG, fun j u hu => ?_⟩
      have hj : j < sz := by have := (List.getElem?_eq_some_iff.1 hu).1; rw [hf] at this; exact this
      rw [hat j hj, hu])
    refine ⟨some a, n, cap, l, rfl, ⟨hlen, fun hn => ?_⟩, hl, hm, fun x hx => ?_⟩
    · have h0 : l[0]? = some (l[0]'(by omega)) := List.getElem?_eq_getElem (by omega)
      have hu : (f (l[0]'(by omega)))[0]? = some ((f (l[0]'(by omega)))[0]'(by rw [hf]; omega)) := List.getElem?_eq_getElem (by rw [hf]; omega)
      have hc0 := (hP 0 _ h0).2 0 _ hu
      obtain ⟨b, o, spot⟩ := a
      have hspot : spot = none := by simpa [Addr.add] using World.cell?_spot hc0
      subst hspot
      refine ⟨b, o, rfl, ?_, fun i x hx j u hu => ?_⟩
      · have := World.block_lt_of_cell? w _ hc0
        simpa [Addr.add] using this
      · have := (hP i x hx).2 j u hu
        rw [add_plain, add_plain] at this
        exact this
    · obtain ⟨i, hi, rfl⟩ := List.mem_iff_getElem.1 hx
      exact (hP i _ (List.getElem?_eq_getElem hi)).1
end
end Go.Proofs.YtnkccilgbhogbaaDoor
