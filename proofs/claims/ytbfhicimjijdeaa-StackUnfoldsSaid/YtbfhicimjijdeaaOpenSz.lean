/- How long a slice argument is, by its datum. -/
import Derived.Test.YtbfhicimjijdeaaOpenSl
namespace Go.Proofs.Ytbfhicimjijdeaa
open Go.RowKit Go.ChangeShapes Go.WideShapes Go.Deep
theorem sl_size {H : Type} {enc : TypeId × Value → H} {w : World} {t e : TypeId} {A : Option Addr} {n cap : Nat} {d : DataW H} {p : List MemPlace} (ht : Try.prog.underlying t = some (.slice e))
    (h : DataW.Trod enc Try.prog w 0 (fun _ => true) true t (.slice A n cap) d p) : n = 0 ∨ ∃ el sp, d = .slice el sp ∧ el.length = n := by
  obtain ⟨fuel, hfu⟩ := h
  rcases open_slice ht hfu with ⟨hcs, _⟩ | ⟨a, len, cap', m, k, D, Pl, hcs, _, hl, hm, hmm, hx, hi⟩
  · simp [Value.cells] at hcs
    exact .inl hcs.2.1
  · simp [Value.cells] at hcs
    obtain ⟨rfl, rfl, rfl⟩ := hcs
    simp only [Prod.mk.injEq] at hx
    exact .inr ⟨_, _, hx.1, by simp⟩
end Go.Proofs.Ytbfhicimjijdeaa
