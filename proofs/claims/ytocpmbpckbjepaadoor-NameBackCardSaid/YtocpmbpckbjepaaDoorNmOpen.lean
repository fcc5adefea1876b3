/- Symbols as arguments, opened. -/
import Derived.Test.YtocpmbpckbjepaaDoorNmGA
import Derived.Test.YtocpmbpckbjepaaDoorNmSame
import Derived.Lib.SmallJoins
import Derived.Deep.Strs
namespace Go.Proofs.YtocpmbpckbjepaaDoor
open Go.RowKit Go.ChangeShapes Go.WideShapes Go.Joins Go.Deep
theorem k_string : Tryd.prog.cellsOf 9 = 1 := by kernel_rfl
theorem k_int : Tryd.prog.cellsOf 3 = 1 := by kernel_rfl
theorem k_parts : Tryd.prog.cellsOf 22 = 1 := by kernel_rfl
theorem k_types : Tryd.prog.cellsOf 23 = 1 := by kernel_rfl
section
variable {α : Type} {H : Type} {enc : TypeId × Value → H} {w : World}
set_option maxRecDepth 100000 in
/-- A slice in cells, opened, each element with less fuel. -/
theorem open_slp {t e sz fuel : Nat} {cs : List Value} {x : DataW H × List MemPlace} (R : α → List Value → Prop) (ht : Tryd.prog.underlying t = some (.slice e)) (hC : Tryd.prog.cellsOf e = sz) (hsz : 0 < sz)
    (hel : ∀ (n : Nat), n < fuel → ∀ (cs : List Value) (x : DataW H × List MemPlace), DataW.trod enc Tryd.prog w 0 (fun _ => true) true n e cs = some x → ∃ a, R a cs)
    (h : DataW.trod enc Tryd.prog w 0 (fun _ => true) true fuel t cs = some x) :
    ∃ (A : Option Addr) (n cap : Nat) (l : List α), cs = [.slice A n cap] ∧ n ≤ cap ∧ cap ≤ maxLen ∧ SlP w w.heap.size sz R A n l := by
  rcases DataW.trod_slice ht h with ⟨hcs, _⟩ | ⟨a, len, cap', elems, rest, n, hfu, hcs, _, _, hl, hm, hlen, hi, _, _⟩
  · exact ⟨none, 0, 0, [], hcs, Nat.le_refl _, Nat.zero_le _, SlP.nil _ _ _ _ _⟩
  · obtain ⟨l, hlen2, hP⟩ := list_of (P := fun i (x : α) => ∃ cs', R x cs' ∧ cs'.length = sz ∧ ∀ j u, cs'[j]? = some u → w.cell? ((a.add (i * sz)).add j) = some u) len (fun i hin => by
      have h1 := hi i hin
      rw [List.getElem?_eq_getElem (by omega)] at h1
      obtain ⟨cs', hc', ht'⟩ := Option.bind_eq_some_iff.1 h1
      obtain ⟨x, hR⟩ := hel n (by omega) _ _ ht'
      obtain ⟨_, hcl, hat⟩ := World.cells?_some hc'
      rw [hC] at hcl hat hc'
      refine ⟨x, cs', hR, hcl, fun j u hu => ?_⟩
      have hj : j < sz := by have := (List.getElem?_eq_some_iff.1 hu).1; omega
      rw [hat j hj, hu])
    refine ⟨some a, len, cap', l, hcs, hl, hm, hlen2, fun hn => ?_⟩
    have h0 : l[0]? = some (l[0]'(by omega)) := List.getElem?_eq_getElem (by omega)
    obtain ⟨cs0, _, hl0, hc0'⟩ := hP 0 _ h0
    have hu : cs0[0]? = some (cs0[0]'(by omega)) := List.getElem?_eq_getElem (by omega)
    have hc0 := hc0' 0 _ hu
    obtain ⟨b, o, spot⟩ := a
    have hspot : spot = none := by simpa [Addr.add] using World.cell?_spot hc0
    subst hspot
    refine ⟨b, o, rfl, ?_, fun i x hx => ?_⟩
    · have := World.block_lt_of_cell? w _ hc0
      simpa [Addr.add] using this
    · obtain ⟨cs', hR, _, hc'⟩ := hP i x hx
      refine ⟨cs', hR, fun j u hu => ?_⟩
      have := hc' j u hu
      rw [add_plain, add_plain] at this
      exact this
set_option maxRecDepth 100000 in
theorem el_part {fuel : Nat} (hT : ∀ n, n < fuel → ∀ (cs : List Value) (x : DataW H × List MemPlace), DataW.trod enc Tryd.prog w 0 (fun _ => true) true n 75 cs = some x → ∃ t, TyIn w w.heap.size fuel t cs)
    (n : Nat) (hn : n < fuel + 1) (cs : List Value) (x : DataW H × List MemPlace) (h : DataW.trod enc Tryd.prog w 0 (fun _ => true) true n 47 cs = some x) : ∃ p, PartIn w w.heap.size (TyIn w w.heap.size fuel) p cs := by
  obtain ⟨ys, m, hm, rfl, hl, hlen, hf⟩ := DataW.trod_struct Tryd.underlying47 h
  obtain ⟨c0, c1, rfl⟩ : ∃ c0 c1, cs = [c0, c1] := by
    have : cs.length = 2 := hl.trans (by kernel_rfl)
    match cs, this with
    | [c0, c1], _ => exact ⟨c0, c1, rfl⟩
  match ys, hlen with
  | [y0, y1], _ =>
    have h0 := hf 0 _ rfl
    have h1 := hf 1 _ rfl
    simp [k_string, k_types] at h0 h1
    obtain ⟨a, e0, _, s0⟩ := DataW.trod_string Tryd.underlying9 h0
    obtain ⟨A, n1, cap, l, e1, hnc, hcm, hsl⟩ := open_slp (e := 75) (sz := 3) (TyIn w w.heap.size fuel) Tryd.underlying23 (by kernel_rfl) (by decide) (fun q hq cs x hx => hT q (by omega) cs x hx) h1
    simp at e0 e1
    exact ⟨(a, l), A, n1, cap, by simp [e0, e1], s0, hnc, hcm, hsl⟩
set_option maxRecDepth 100000 in
theorem el_type : ∀ (fuel : Nat) (cs : List Value) (x : DataW H × List MemPlace), DataW.trod enc Tryd.prog w 0 (fun _ => true) true fuel 75 cs = some x → ∃ t, TyIn w w.heap.size fuel t cs := by
  intro fuel
  induction fuel using Nat.strongRecOn with
  | ind fuel ih =>
  intro cs x h
  obtain ⟨ys, m, hm, rfl, hl, hlen, hf⟩ := DataW.trod_struct Tryd.underlying75 h
  subst hm
  have hT : ∀ n, n < m + 1 → ∀ (cs : List Value) (x : DataW H × List MemPlace), DataW.trod enc Tryd.prog w 0 (fun _ => true) true n 75 cs = some x → ∃ t, TyIn w w.heap.size m t cs := fun n hn cs x hx => by
    obtain ⟨t, ht⟩ := ih n hn cs x hx
    exact ⟨t, ht.deep (by omega)⟩
  obtain ⟨c0, c1, c2, rfl⟩ : ∃ c0 c1 c2, cs = [c0, c1, c2] := by
    have : cs.length = 3 := hl.trans (by kernel_rfl)
    match cs, this with
    | [c0, c1, c2], _ => exact ⟨c0, c1, c2, rfl⟩
  match ys, hlen with
  | [y0, y1, y2], _ =>
    have h0 := hf 0 _ rfl
    have h1 := hf 1 _ rfl
    have h2 := hf 2 _ rfl
    simp [k_int, k_parts, k_types] at h0 h1 h2
    obtain ⟨a, e0, _, _⟩ := DataW.trod_int Tryd.underlying3 h0
    obtain ⟨A, n1, cap, l, e1, hnc, hcm, hsl⟩ := open_slp (e := 47) (sz := 2) (PartIn w w.heap.size (TyIn w w.heap.size m)) Tryd.underlying22 (by kernel_rfl) (by decide) (fun q hq cs x hx => el_part (fun n hn => hT n (by omega)) q (by omega) cs x hx) h1
    obtain ⟨A2, n2, cap2, l2, e2, hnc2, hcm2, hsl2⟩ := open_slp (e := 75) (sz := 3) (TyIn w w.heap.size m) Tryd.underlying23 (by kernel_rfl) (by decide) (fun q hq cs x hx => hT q (by omega) cs x hx) h2
    simp at e0 e1 e2
    exact ⟨.mk a l l2, A, n1, cap, A2, n2, cap2, by simp [e0, e1, e2, Ty.kind], hnc, hcm, hnc2, hcm2, hsl, hsl2⟩
set_option maxRecDepth 100000 in
theorem open_sym {b0 : Nat} {v : Value} {d : DataW H} {p : List MemPlace} {r : Reach} (hv : Value.okWide Tryd.prog w r b0 25 v) (h : DataW.Trod enc Tryd.prog w 0 (fun _ => true) true 25 v d p) :
    ∃ (k : Nat) (s : Sym) (cs : List Value), v = .agg cs.toArray ∧ SymIn w k s cs := by
  obtain ⟨cs, rfl, _⟩ := okWide_struct Tryd.underlying25 hv
  obtain ⟨fuel, hf0⟩ := h
  obtain ⟨ys, m, hm, _, hl, hlen, hf⟩ := DataW.trod_struct Tryd.underlying25 hf0
  simp only [Value.cells] at hl hf
  obtain ⟨c0, c1, hcs⟩ : ∃ c0 c1, cs.toList = [c0, c1] := by
    have : cs.toList.length = 2 := hl.trans (by kernel_rfl)
    match cs.toList, this with
    | [c0, c1], _ => exact ⟨c0, c1, rfl⟩
  rw [hcs] at hf
  match ys, hlen with
  | [y0, y1], _ =>
    have h0 := hf 0 _ rfl
    have h1 := hf 1 _ rfl
    simp [k_parts, k_types] at h0 h1
    have hT : ∀ n, n < m + 1 → ∀ (cs : List Value) (x : DataW H × List MemPlace), DataW.trod enc Tryd.prog w 0 (fun _ => true) true n 75 cs = some x → ∃ t, TyIn w w.heap.size m t cs := fun n hn cs x hx => by
      obtain ⟨t, ht⟩ := el_type n cs x hx
      exact ⟨t, ht.deep (by omega)⟩
    obtain ⟨A, n1, cap, l, e1, hnc, hcm, hsl⟩ := open_slp (e := 47) (sz := 2) (PartIn w w.heap.size (TyIn w w.heap.size m)) Tryd.underlying22 (by kernel_rfl) (by decide) (fun q hq cs x hx => el_part (fun n hn => hT n (by omega)) q (by omega) cs x hx) h0
    obtain ⟨A2, n2, cap2, l2, e2, hnc2, hcm2, hsl2⟩ := open_slp (e := 75) (sz := 3) (TyIn w w.heap.size m) Tryd.underlying23 (by kernel_rfl) (by decide) (fun q hq cs x hx => hT q (by omega) cs x hx) h1
    simp at e1 e2
    refine ⟨m, ⟨l, l2⟩, [c0, c1], ?_, A, n1, cap, A2, n2, cap2, by simp [e1, e2], hnc, hcm, hnc2, hcm2, hsl, hsl2⟩
    rw [← hcs, Array.toArray_toList]
end
end Go.Proofs.YtocpmbpckbjepaaDoor
