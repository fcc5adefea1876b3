/- Faults as arguments, opened: by value and in a slice; a frame by value. -/
import Derived.Test.YtnlliddfljogjaaDoorStOpen
import Derived.Test.YtnlliddfljogjaaDoorStFault
namespace Go.Proofs.YtnlliddfljogjaaDoor
open Go.RowKit Go.ChangeShapes Go.WideShapes Go.Joins Go.Deep
section
variable {α : Type} {H : Type} {enc : TypeId × Value → H} {w : World}
set_option maxRecDepth 100000 in
/-- A slice in cells, opened. -/
theorem open_slr {t e sz fuel : Nat} {cs : List Value} {x : DataW H × List MemPlace} (f : α → List Value) (G : α → Prop) (ht : Tryd.prog.underlying t = some (.slice e)) (hC : Tryd.prog.cellsOf e = sz) (hsz : 0 < sz) (hf : ∀ a, (f a).length = sz)
    (hel : ∀ (n : Nat) (cs : List Value) (x : DataW H × List MemPlace), DataW.trod enc Tryd.prog w 0 (fun _ => true) true n e cs = some x → ∃ a, cs = f a ∧ G a)
    (h : DataW.trod enc Tryd.prog w 0 (fun _ => true) true fuel t cs = some x) :
    ∃ (A : Option Addr) (n cap : Nat) (l : List α), cs = [.slice A n cap] ∧ Sl w w.heap.size f sz A n l ∧ n ≤ cap ∧ cap ≤ maxLen ∧ ∀ a ∈ l, G a := by
  rcases open_slice ht h with ⟨hcs, _⟩ | ⟨a, len, cap', m, k, D, Pl, hcs, _, hl, hm, hmm, _, hi⟩
  · exact ⟨none, 0, 0, [], hcs, Sl.nil _ _ _ _ _, Nat.le_refl _, Nat.zero_le _, by simp⟩
  · have hm' : m = cap' := by simpa using hmm
    obtain ⟨l, hlen, hP⟩ := list_of (P := fun i (x : α) => G x ∧ ∀ j u, (f x)[j]? = some u → w.cell? ((a.add (i * sz)).add j) = some u) len (fun i hin => by
      obtain ⟨cs', hc', ht'⟩ := hi i (by omega)
      obtain ⟨x, rfl, hG⟩ := hel _ _ _ ht'
      obtain ⟨_, hcl, hat⟩ := World.cells?_some hc'
      rw [hC] at hcl hat hc'
      refine ⟨x, hG, fun j u hu => ?_⟩
      have hj : j < sz := by have := (List.getElem?_eq_some_iff.1 hu).1; rw [hf] at this; exact this
      rw [hat j hj, hu])
    refine ⟨some a, len, cap', l, hcs, ⟨hlen, fun hn => ?_⟩, hl, hm, fun x hx => ?_⟩
    · have h0 : l[0]? = some (l[0]'(by omega)) := List.getElem?_eq_getElem (by omega)
      have hu : (f (l[0]'(by omega)))[0]? = some ((f (l[0]'(by omega)))[0]'(by rw [hf]; omega)) := List.getElem?_eq_getElem (by rw [hf]; omega)
      have hc0 := (hP 0 _ h0).2 0 _ hu
      obtain ⟨b, o, spot⟩ := a
      have hspot : spot = none := by simpa [Addr.add] using World.cell?_spot hc0
      subst hspot
      refine ⟨b, o, rfl, ?_, fun i x hx j u hu => ?_⟩
      · have := World.block_lt_of_cell? w _ hc0
        simpa [Addr.add] using this
      · have := (hP i x hx).2 j u hu
        rw [add_plain, add_plain] at this
        exact this
    · obtain ⟨i, hi, rfl⟩ := List.mem_iff_getElem.1 hx
      exact (hP i _ (List.getElem?_eq_getElem hi)).1
end
theorem k_frames : Tryd.prog.cellsOf 31 = 1 := by kernel_rfl
section
variable {H : Type} {enc : TypeId × Value → H} {w : World} {b0 : Nat} {v : Value} {d : DataW H} {p : List MemPlace} {r : Reach}
set_option maxRecDepth 100000 in
theorem el_fault (n : Nat) (cs : List Value) (x : DataW H × List MemPlace)
    (h : DataW.trod enc Tryd.prog w 0 (fun _ => true) true n 33 cs = some x) : ∃ a : FaultT, cs = a.cs ∧ a.ok w := by
  obtain ⟨y0, y1, y2, m, rfl, hl, h0, h1, h2⟩ := trod_struct3 Tryd.underlying33 h
  obtain ⟨c0, c1, c2, rfl⟩ : ∃ c0 c1 c2, cs = [c0, c1, c2] := by
    have : cs.length = 3 := hl.trans (by kernel_rfl)
    match cs, this with
    | [c0, c1, c2], _ => exact ⟨c0, c1, c2, rfl⟩
  simp [k_string, k_frames] at h0 h1 h2
  obtain ⟨a, e0, _, s0⟩ := DataW.trod_string Tryd.underlying9 h0
  obtain ⟨b, e1, _, s1⟩ := DataW.trod_string Tryd.underlying9 h1
  obtain ⟨A, k, cap, l, e2, hsl, hnc, hcm, hf⟩ := open_slr (e := 35) (sz := 6) Frame.cs (fun a => a.fit) Tryd.underlying31 (by kernel_rfl) (by decide) (fun _ => rfl) (fun n cs x hx => el_frame n cs x hx) h2
  simp at e0 e1 e2
  exact ⟨⟨a, b, A, k, cap, l⟩, by simp [e0, e1, e2, FaultT.cs], s0, s1, Nat.le_trans hnc hcm, hnc, hsl, hf⟩
set_option maxRecDepth 100000 in
theorem open_frame (hv : Value.okWide Tryd.prog w r b0 35 v) (h : DataW.Trod enc Tryd.prog w 0 (fun _ => true) true 35 v d p) :
    ∃ x : Frame, v = .agg #[.string x.mod, .string x.fn, .string x.file, .int .i64 x.line, .int .i64 x.addr, .bool x.own] ∧ x.fit := by
  obtain ⟨cs, rfl, _⟩ := okWide_struct Tryd.underlying35 hv
  obtain ⟨fuel, hf⟩ := h
  obtain ⟨x, e, hx⟩ := el_frame _ _ _ hf
  refine ⟨x, ?_, hx⟩
  simp only [Value.cells] at e
  rw [← Array.toArray_toList (xs := cs)] 
  rw [e]; rfl
set_option maxRecDepth 100000 in
theorem open_fault (hv : Value.okWide Tryd.prog w r b0 33 v) (h : DataW.Trod enc Tryd.prog w 0 (fun _ => true) true 33 v d p) :
    ∃ x : FaultT, v = .agg #[.string x.kind, .string x.text, .slice x.A x.n x.cap] ∧ x.ok w := by
  obtain ⟨cs, rfl, _⟩ := okWide_struct Tryd.underlying33 hv
  obtain ⟨fuel, hf⟩ := h
  obtain ⟨x, e, hx⟩ := el_fault _ _ _ hf
  refine ⟨x, ?_, hx⟩
  simp only [Value.cells] at e
  rw [← Array.toArray_toList (xs := cs)]
  rw [e]; rfl
set_option maxRecDepth 100000 in
theorem open_faults (hv : Value.okWide Tryd.prog w r b0 22 v) (h : DataW.Trod enc Tryd.prog w 0 (fun _ => true) true 22 v d p) :
    ∃ (A : Option Addr) (n cap : Nat) (l : List FaultT), v = .slice A n cap ∧ Sl w w.heap.size FaultT.cs 3 A n l ∧ n ≤ cap ∧ cap ≤ maxLen ∧ FaultsOk w l :=
  open_sl FaultT.cs (fun a => a.ok w) Tryd.underlying22 (by kernel_rfl) (by decide) (fun _ => rfl) (fun n cs x hx => el_fault n cs x hx) hv h
end
end Go.Proofs.YtnlliddfljogjaaDoor
