/- A row of strings that came in, opened, with its weights. -/
import Derived.Test.YtecancnojdifaaaDoorNmGA
import Derived.Lib.SmallJoins
import Derived.ProofKit
import Derived.Deep.Strs
import Derived.SizedLaws
namespace Go.Proofs.YtecancnojdifaaaDoor
open Go.RowKit Go.ChangeShapes Go.WideShapes Go.Joins Go.Deep
set_option linter.unusedVariables false
set_option linter.unusedSimpArgs false
/-- What every weight in the data keeps within. -/
def Wt {H : Type} (t : TypeId) (d : DataW H) : Prop := ∀ k ∈ d.weights Tryd.prog t, k ≤ reachBytes
theorem wt_each {H : Type} {ts : List TypeId} {ds : List (DataW H)} (h : (DataW.weightsEach Tryd.prog ts ds).all (· ≤ reachBytes) = true) {j : Nat} {t : TypeId} {d : DataW H} (ht : ts[j]? = some t) (hd : ds[j]? = some d) : Wt t d := fun k hk => by
  have := List.all_eq_true.1 h k (DataW.weights_mem_each ht hd k hk)
  simpa using this
theorem wt_all {H : Type} {e : TypeId} {k : Nat} : ∀ (ds : List (DataW H)) (d : DataW H), d ∈ ds → k ∈ d.weights Tryd.prog e → k ∈ DataW.weightsAll Tryd.prog e ds
  | x :: ds, d, hd, hk => by
    simp only [DataW.weightsAll, List.mem_append]
    rcases List.mem_cons.1 hd with rfl | hd
    · exact Or.inl hk
    · exact Or.inr (wt_all ds d hd hk)
section
variable {α : Type} {H : Type} {enc : TypeId × Value → H} {w : World}
set_option maxRecDepth 100000 in
/-- A slice in cells, opened, with the weights. -/
theorem open_slw {t e sz fuel : Nat} {cs : List Value} {x : DataW H × List MemPlace} (f : α → List Value) (G : α → Prop) (ht : Tryd.prog.underlying t = some (.slice e)) (hC : Tryd.prog.cellsOf e = sz) (hsz : 0 < sz) (hf : ∀ a, (f a).length = sz)
    (hel : ∀ (n : Nat) (cs : List Value) (x : DataW H × List MemPlace), DataW.trod enc Tryd.prog w 0 (fun _ => true) true n e cs = some x → Wt e x.1 → ∃ a, cs = f a ∧ G a)
    (h : DataW.trod enc Tryd.prog w 0 (fun _ => true) true fuel t cs = some x) (hw : Wt t x.1) :
    ∃ (A : Option Addr) (n cap : Nat) (l : List α), cs = [.slice A n cap] ∧ Sl w w.heap.size f sz A n l ∧ n ≤ cap ∧ cap ≤ maxLen ∧ n * Tryd.prog.bytesOf e ≤ reachBytes ∧ ∀ a ∈ l, G a := by
  rcases open_slice ht h with ⟨hcs, _⟩ | ⟨a, len, cap', m, k, D, Pl, hcs, _, hl, hm, hmm, hx, hi⟩
  · exact ⟨none, 0, 0, [], hcs, Sl.nil _ _ _ _ _, Nat.le_refl _, Nat.zero_le _, by simp, by simp⟩
  · have hm' : m = cap' := by simpa using hmm
    have hwt : ∀ i, i < len → Wt e (D i) := fun i hi k hk => hw k (by
      rw [hx]
      simp only [DataW.weights, ht, List.mem_cons, List.mem_append]
      exact Or.inr (Or.inl (wt_all _ _ (List.mem_map.2 ⟨i, List.mem_range.2 hi, rfl⟩) hk)))
    have hnb : len * Tryd.prog.bytesOf e ≤ reachBytes := by
      have h1 := hw ((((List.range len).map D).length + ((List.range (m - len)).map fun j => D (len + j)).length) * Tryd.prog.bytesOf e) (by
        rw [hx]
        simp only [DataW.weights, ht]
        exact List.mem_cons_self)
      rw [List.length_map, List.length_range] at h1
      exact Nat.le_trans (Nat.mul_le_mul_right _ (Nat.le_add_right _ _)) h1
    obtain ⟨l, hlen, hP⟩ := list_of (P := fun i (x : α) => G x ∧ ∀ j u, (f x)[j]? = some u → w.cell? ((a.add (i * sz)).add j) = some u) len (fun i hin => by
      obtain ⟨cs', hc', ht'⟩ := hi i (by omega)
      obtain ⟨x, rfl, hG⟩ := hel _ _ _ ht' (hwt i hin)
      obtain ⟨_, hcl, hat⟩ := World.cells?_some hc'
      rw [hC] at hcl hat hc'
      refine ⟨x, hG, fun j u hu => ?_⟩
      have hj : j < sz := by have := (List.getElem?_eq_some_iff.1 hu).1; rw [hf] at this; exact this
      rw [hat j hj, hu])
    refine ⟨some a, len, cap', l, hcs, ⟨hlen, fun hn => ?_⟩, hl, hm, hnb, fun x hx => ?_⟩
    · have h0 : l[0]? = some (l[0]'(by omega)) := List.getElem?_eq_getElem (by omega)
      have hu : (f (l[0]'(by omega)))[0]? = some ((f (l[0]'(by omega)))[0]'(by rw [hf]; omega)) := List.getElem?_eq_getElem (by rw [hf]; omega)
      have hc0 := (hP 0 _ h0).2 0 _ hu
      obtain ⟨b, o, spot⟩ := a
      have hspot : spot = none := by simpa [Addr.add] using World.cell?_spot hc0
      subst hspot
      refine ⟨b, o, rfl, ?_, fun i x hx j u hu => ?_⟩
      · have := World.block_lt_of_cell? w _ hc0
        simpa [Addr.add] using this
      · have := (hP i x hx).2 j u hu
        rw [add_plain, add_plain] at this
        exact this
    · obtain ⟨i, hi, rfl⟩ := List.mem_iff_getElem.1 hx
      exact (hP i _ (List.getElem?_eq_getElem hi)).1
end
section
variable {H : Type} {enc : TypeId × Value → H} {w : World} {b0 : Nat} {v : Value} {d : DataW H} {p : List MemPlace} {r : Reach}
theorem el_strW (n : Nat) (cs' : List Value) (x : DataW H × List MemPlace) (h : DataW.trod enc Tryd.prog w 0 (fun _ => true) true n 9 cs' = some x) (hw : Wt 9 x.1) : ∃ a : ByteArray, cs' = cs a ∧ a.size ≤ reachBytes := by
  obtain ⟨b, e1, x1, s1⟩ := DataW.trod_string Tryd.underlying9 h
  have := hw b.data.toList.length (by rw [x1]; simp [DataW.weights])
  exact ⟨b, e1, by simpa using this⟩
set_option maxRecDepth 100000 in
theorem open_strs (hv : Value.okWide Tryd.prog w r b0 32 v) (h : DataW.Trod enc Tryd.prog w 0 (fun _ => true) true 32 v d p) (hw : Wt 32 d) :
    ∃ (A : Option Addr) (n cap : Nat) (l : List ByteArray), v = .slice A n cap ∧ Sl w w.heap.size cs 1 A n l ∧ n ≤ cap ∧ cap ≤ maxLen ∧ n * 16 ≤ reachBytes ∧ ∀ a ∈ l, a.size ≤ reachBytes := by
  obtain ⟨A0, n0, cap0, rfl⟩ := okWide_slice Tryd.underlying32 hv
  obtain ⟨fuel, hfu⟩ := h
  obtain ⟨A, n, cap, l, e, hs, h1, h2, h3, h4⟩ := open_slw (e := 9) (sz := 1) cs (fun a => a.size ≤ reachBytes) Tryd.underlying32 (by kernel_rfl) (by decide) (fun _ => rfl) (fun n cs x hx hwx => el_strW n cs x hx hwx) hfu hw
  simp [Value.cells] at e
  obtain ⟨rfl, rfl, rfl⟩ := e
  exact ⟨_, _, _, l, rfl, hs, h1, h2, by have hb : Tryd.prog.bytesOf 9 = 16 := by kernel_rfl
                                         rw [hb] at h3; exact h3, h4⟩
end
end Go.Proofs.YtecancnojdifaaaDoor
