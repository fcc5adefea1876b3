/- The arguments of AlertChecks, opened: rules, silences, a plan, a post. -/
import Derived.Test.YtnkccilgbhogbaaDoorOpenSl
import Derived.Test.YtnkccilgbhogbaaDoorAlErr
import Derived.Test.YtnkccilgbhogbaaDoorAlSil
import Derived.Test.YtnkccilgbhogbaaDoorAlLnL
import Derived.Lib.SmallJoins
import Derived.ProofKit
import Derived.Deep.Strs
import Derived.SizedLaws
namespace Go.Proofs.YtnkccilgbhogbaaDoor
open Go.RowKit Go.ChangeShapes Go.WideShapes Go.Joins Go.Deep
set_option linter.unusedVariables false
set_option linter.unusedSimpArgs false
theorem k_string : Tryd.prog.cellsOf 9 = 1 := by kernel_rfl
theorem k_int : Tryd.prog.cellsOf 3 = 1 := by kernel_rfl
theorem k_nts : Tryd.prog.cellsOf 32 = 1 := by kernel_rfl
/-- What every weight in the data keeps within. -/
def Wt {H : Type} (t : TypeId) (d : DataW H) : Prop := ∀ k ∈ d.weights Tryd.prog t, k ≤ reachBytes
theorem wt_each {H : Type} {ts : List TypeId} {ds : List (DataW H)} (h : (DataW.weightsEach Tryd.prog ts ds).all (· ≤ reachBytes) = true) {j : Nat} {t : TypeId} {d : DataW H} (ht : ts[j]? = some t) (hd : ds[j]? = some d) : Wt t d := fun k hk => by
  have := List.all_eq_true.1 h k (DataW.weights_mem_each ht hd k hk)
  simpa using this
theorem wt_all {H : Type} {e : TypeId} {k : Nat} : ∀ (ds : List (DataW H)) (d : DataW H), d ∈ ds → k ∈ d.weights Tryd.prog e → k ∈ DataW.weightsAll Tryd.prog e ds
  | x :: ds, d, hd, hk => by
    simp only [DataW.weightsAll, List.mem_append]
    rcases List.mem_cons.1 hd with rfl | hd
    · exact Or.inl hk
    · exact Or.inr (wt_all ds d hd hk)
section
variable {α : Type} {H : Type} {enc : TypeId × Value → H} {w : World}
set_option maxRecDepth 100000 in
/-- A slice in cells, opened, with the weights. -/
theorem open_slw {t e sz fuel : Nat} {cs : List Value} {x : DataW H × List MemPlace} (f : α → List Value) (G : α → Prop) (ht : Tryd.prog.underlying t = some (.slice e)) (hC : Tryd.prog.cellsOf e = sz) (hsz : 0 < sz) (hf : ∀ a, (f a).length = sz)
    (hel : ∀ (n : Nat) (cs : List Value) (x : DataW H × List MemPlace), DataW.trod enc Tryd.prog w 0 (fun _ => true) true n e cs = some x → Wt e x.1 → ∃ a, cs = f a ∧ G a)
    (h : DataW.trod enc Tryd.prog w 0 (fun _ => true) true fuel t cs = some x) (hw : Wt t x.1) :
    ∃ (A : Option Addr) (n cap : Nat) (l : List α), cs = [.slice A n cap] ∧ Sl w w.heap.size f sz A n l ∧ n ≤ cap ∧ cap ≤ maxLen ∧ n * Tryd.prog.bytesOf e ≤ reachBytes ∧ ∀ a ∈ l, G a := by
  rcases open_slice ht h with ⟨hcs, _⟩ | ⟨a, len, cap', m, k, D, Pl, hcs, _, hl, hm, hmm, hx, hi⟩
  · exact ⟨none, 0, 0, [], hcs, Sl.nil _ _ _ _ _, Nat.le_refl _, Nat.zero_le _, by simp, by simp⟩
  · have hm' : m = cap' := by simpa using hmm
    have hwt : ∀ i, i < len → Wt e (D i) := fun i hi k hk => hw k (by
      rw [hx]
      simp only [DataW.weights, ht, List.mem_cons, List.mem_append]
      exact Or.inr (Or.inl (wt_all _ _ (List.mem_map.2 ⟨i, List.mem_range.2 hi, rfl⟩) hk)))
    have hnb : len * Tryd.prog.bytesOf e ≤ reachBytes := by
      have h1 := hw ((((List.range len).map D).length + ((List.range (m - len)).map fun j => D (len + j)).length) * Tryd.prog.bytesOf e) (by
        rw [hx]
        simp only [DataW.weights, ht]
        exact List.mem_cons_self)
      rw [List.length_map, List.length_range] at h1
      exact Nat.le_trans (Nat.mul_le_mul_right _ (Nat.le_add_right _ _)) h1
    obtain ⟨l, hlen, hP⟩ := list_of (P := fun i (x : α) => G x ∧ ∀ j u, (f x)[j]? = some u → w.cell? ((a.add (i * sz)).add j) = some u) len (fun i hin => by
      obtain ⟨cs', hc', ht'⟩ := hi i (by omega)
      obtain ⟨x, rfl, hG⟩ := hel _ _ _ ht' (hwt i hin)
      obtain ⟨_, hcl, hat⟩ := World.cells?_some hc'
      rw [hC] at hcl hat hc'
      refine ⟨x, hG, fun j u hu => ?_⟩
      have hj : j < sz := by have := (List.getElem?_eq_some_iff.1 hu).1; rw [hf] at this; exact this
      rw [hat j hj, hu])
    refine ⟨some a, len, cap', l, hcs, ⟨hlen, fun hn => ?_⟩, hl, hm, hnb, fun x hx => ?_⟩
    · have h0 : l[0]? = some (l[0]'(by omega)) := List.getElem?_eq_getElem (by omega)
      have hu : (f (l[0]'(by omega)))[0]? = some ((f (l[0]'(by omega)))[0]'(by rw [hf]; omega)) := List.getElem?_eq_getElem (by rw [hf]; omega)
      have hc0 := (hP 0 _ h0).2 0 _ hu
      obtain ⟨b, o, spot⟩ := a
      have hspot : spot = none := by simpa [Addr.add] using World.cell?_spot hc0
      subst hspot
      refine ⟨b, o, rfl, ?_, fun i x hx j u hu => ?_⟩
      · have := World.block_lt_of_cell? w _ hc0
        simpa [Addr.add] using this
      · have := (hP i x hx).2 j u hu
        rw [add_plain, add_plain] at this
        exact this
    · obtain ⟨i, hi, rfl⟩ := List.mem_iff_getElem.1 hx
      exact (hP i _ (List.getElem?_eq_getElem hi)).1
end
section
variable {H : Type} {enc : TypeId × Value → H} {w : World} {b0 : Nat} {v : Value} {d : DataW H} {p : List MemPlace} {r : Reach}
set_option maxRecDepth 100000 in
theorem el_nt (n : Nat) (cs : List Value) (x : DataW H × List MemPlace)
    (h : DataW.trod enc Tryd.prog w 0 (fun _ => true) true n 51 cs = some x) (hw : Wt 51 x.1) : ∃ a : Nt, cs = a.cs ∧ (a.rule.size ≤ 4611686018427387904 ∧ -9223372036854775808 ≤ a.value ∧ a.value ≤ 9223372036854775807) := by
  obtain ⟨ys, m, _, rfl, hl, hlen, hf⟩ := DataW.trod_struct Tryd.underlying51 h
  obtain ⟨c0, c1, c2, c3, rfl⟩ : ∃ c0 c1 c2 c3, cs = [c0, c1, c2, c3] := by
    have : cs.length = 4 := hl.trans (by kernel_rfl)
    match cs, this with
    | [c0, c1, c2, c3], _ => exact ⟨c0, c1, c2, c3, rfl⟩
  match ys, hlen with
  | [y0, y1, y2, y3], _ =>
    have h0 := hf 0 _ rfl
    have h1 := hf 1 _ rfl
    have h2 := hf 2 _ rfl
    have h3 := hf 3 _ rfl
    simp [k_int, k_string] at h0 h1 h2 h3
    obtain ⟨a, e0, _, _⟩ := DataW.trod_int Tryd.underlying3 h0
    obtain ⟨b, e1, x1, s1⟩ := DataW.trod_string Tryd.underlying9 h1
    obtain ⟨c, e2, _, _⟩ := DataW.trod_int Tryd.underlying3 h2
    obtain ⟨d, e3, _, wf⟩ := DataW.trod_int Tryd.underlying3 h3
    simp at e0 e1 e2 e3
    have hb : b.size ≤ reachBytes := by
      have := hw b.data.toList.length (by
        simp only [DataW.weights, Tryd.underlying51]
        refine DataW.weights_mem_each (j := 1) (t := 9) (d := y1.1) rfl rfl _ ?_
        rw [x1]
        simp [DataW.weights])
      simpa using this
    have hv : -9223372036854775808 ≤ d ∧ d ≤ 9223372036854775807 := by simp [Lit.wf, IntKind.min, IntKind.max, IntKind.signed, IntKind.bits] at wf; omega
    exact ⟨⟨a, b, c, d⟩, by simp [e0, e1, e2, e3, Nt.cs], Nat.le_trans hb (by unfold reachBytes; decide), hv.1, hv.2⟩
set_option maxRecDepth 100000 in
theorem open_plan (hv : Value.okWide Tryd.prog w r b0 23 v) (h : DataW.Trod enc Tryd.prog w 0 (fun _ => true) true 23 v d p) :
    ∃ a b c e : Int, v = .agg #[.int .i64 a, .int .i64 b, .int .i64 c, .int .i64 e] := by
  obtain ⟨cs, rfl, _⟩ := okWide_struct Tryd.underlying23 hv
  obtain ⟨fuel, hf0⟩ := h
  obtain ⟨ys, m, hm, _, hl, hlen, hf⟩ := DataW.trod_struct Tryd.underlying23 hf0
  simp only [Value.cells] at hl hf
  obtain ⟨c0, c1, c2, c3, hcs⟩ : ∃ c0 c1 c2 c3, cs.toList = [c0, c1, c2, c3] := by
    have : cs.toList.length = 4 := hl.trans (by kernel_rfl)
    match cs.toList, this with
    | [c0, c1, c2, c3], _ => exact ⟨c0, c1, c2, c3, rfl⟩
  rw [hcs] at hf
  match ys, hlen with
  | [y0, y1, y2, y3], _ =>
    have h0 := hf 0 _ rfl
    have h1 := hf 1 _ rfl
    have h2 := hf 2 _ rfl
    have h3 := hf 3 _ rfl
    simp [k_int] at h0 h1 h2 h3
    obtain ⟨a, e0, _, _⟩ := DataW.trod_int Tryd.underlying3 h0
    obtain ⟨b, e1, _, _⟩ := DataW.trod_int Tryd.underlying3 h1
    obtain ⟨c, e2, _, _⟩ := DataW.trod_int Tryd.underlying3 h2
    obtain ⟨d, e3, _, _⟩ := DataW.trod_int Tryd.underlying3 h3
    simp at e0 e1 e2 e3
    refine ⟨a, b, c, d, ?_⟩
    rw [← Array.toArray_toList (xs := cs), hcs, e0, e1, e2, e3]
set_option maxRecDepth 100000 in
theorem open_post (hv : Value.okWide Tryd.prog w r b0 41 v) (h : DataW.Trod enc Tryd.prog w 0 (fun _ => true) true 41 v d p) (hw : Wt 41 d) :
    ∃ (no tr nx : Int) (A : Option Addr) (n cap : Nat) (l : List Nt), v = .agg #[.int .i64 no, .slice A n cap, .int .i64 tr, .int .i64 nx] ∧ Sl w w.heap.size Nt.cs 4 A n l ∧ n ≤ cap ∧ cap ≤ maxLen ∧ n * Tryd.prog.bytesOf 51 ≤ reachBytes ∧
      ∀ a ∈ l, a.rule.size ≤ 4611686018427387904 ∧ -9223372036854775808 ≤ a.value ∧ a.value ≤ 9223372036854775807 := by
  obtain ⟨cs, rfl, _⟩ := okWide_struct Tryd.underlying41 hv
  obtain ⟨fuel, hf0⟩ := h
  obtain ⟨ys, m, hm, hx, hl, hlen, hf⟩ := DataW.trod_struct Tryd.underlying41 hf0
  simp only [Value.cells] at hl hf
  obtain ⟨c0, c1, c2, c3, hcs⟩ : ∃ c0 c1 c2 c3, cs.toList = [c0, c1, c2, c3] := by
    have : cs.toList.length = 4 := hl.trans (by kernel_rfl)
    match cs.toList, this with
    | [c0, c1, c2, c3], _ => exact ⟨c0, c1, c2, c3, rfl⟩
  rw [hcs] at hf
  match ys, hlen with
  | [y0, y1, y2, y3], _ =>
    have hd : d = .agg [y0.1, y1.1, y2.1, y3.1] := by simpa using congrArg Prod.fst hx
    have h0 := hf 0 _ rfl
    have h1 := hf 1 _ rfl
    have h2 := hf 2 _ rfl
    have h3 := hf 3 _ rfl
    simp [k_int, k_nts] at h0 h1 h2 h3
    obtain ⟨a, e0, _, _⟩ := DataW.trod_int Tryd.underlying3 h0
    obtain ⟨c, e2, _, _⟩ := DataW.trod_int Tryd.underlying3 h2
    obtain ⟨d', e3, _, _⟩ := DataW.trod_int Tryd.underlying3 h3
    have hw1 : Wt 32 y1.1 := fun k hk => hw k (by
      rw [hd]
      simp only [DataW.weights, Tryd.underlying41]
      exact DataW.weights_mem_each (j := 1) rfl rfl _ hk)
    obtain ⟨A, n, cap, l, e1, hsl, hnc, hcm, hnb, hfl⟩ := open_slw (e := 51) (sz := 4) Nt.cs (fun a => a.rule.size ≤ 4611686018427387904 ∧ -9223372036854775808 ≤ a.value ∧ a.value ≤ 9223372036854775807) Tryd.underlying32 (by kernel_rfl) (by decide) (fun _ => rfl) (fun n cs x hx hw => el_nt n cs x hx hw) h1 hw1
    simp at e0 e1 e2 e3
    refine ⟨a, c, d', A, n, cap, l, ?_, hsl, hnc, hcm, hnb, hfl⟩
    rw [← Array.toArray_toList (xs := cs), hcs, e0, e1, e2, e3]
end
end Go.Proofs.YtnkccilgbhogbaaDoor
