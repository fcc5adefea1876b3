/- The arguments of GroupBooks, opened: deeds. -/
import Derived.Test.YtapfcnfmonknjaaGreatDoorOpenSl
import Derived.Test.YtapfcnfmonknjaaGreatDoorBkMv
import Derived.Lib.SmallJoins
import Derived.ProofKit
import Derived.Deep.Strs
namespace Go.Proofs.YtapfcnfmonknjaaGreatDoor
open Go.RowKit Go.ChangeShapes Go.WideShapes Go.Joins Go.Deep
set_option linter.unusedVariables false
set_option linter.unusedSimpArgs false
section
variable {α : Type} {H : Type} {enc : TypeId × Value → H} {w : World}
set_option maxRecDepth 100000 in
/-- A slice in cells, opened. -/
theorem open_slr {t e sz fuel : Nat} {cs : List Value} {x : DataW H × List MemPlace} (f : α → List Value) (G : α → Prop) (ht : Tryz.prog.underlying t = some (.slice e)) (hC : Tryz.prog.cellsOf e = sz) (hsz : 0 < sz) (hf : ∀ a, (f a).length = sz)
    (hel : ∀ (n : Nat) (cs : List Value) (x : DataW H × List MemPlace), DataW.trod enc Tryz.prog w 0 (fun _ => true) true n e cs = some x → ∃ a, cs = f a ∧ G a)
    (h : DataW.trod enc Tryz.prog w 0 (fun _ => true) true fuel t cs = some x) :
    ∃ (A : Option Addr) (n cap : Nat) (l : List α), cs = [.slice A n cap] ∧ Sl w w.heap.size f sz A n l ∧ n ≤ cap ∧ cap ≤ maxLen ∧ ∀ a ∈ l, G a := by
  rcases open_slice ht h with ⟨hcs, _⟩ | ⟨a, len, cap', m, k, D, Pl, hcs, _, hl, hm, hmm, _, hi⟩
  · exact ⟨none, 0, 0, [], hcs, Sl.nil _ _ _ _ _, Nat.le_refl _, Nat.zero_le _, by simp⟩
  · have hm' : m = cap' := by simpa using hmm
    obtain ⟨l, hlen, hP⟩ := list_of (P := fun i (x : α) => G x ∧ ∀ j u, (f x)[j]? = some u → w.cell? ((a.add (i * sz)).add j) = some u) len (fun i hin => by
      obtain ⟨cs', hc', ht'⟩ := hi i (by omega)
      obtain ⟨x, rfl, hG⟩ := hel _ _ _ ht'
      obtain ⟨_, hcl, hat⟩ := World.cells?_some hc'
      rw [hC] at hcl hat hc'
      refine ⟨x, hG, fun j u hu => ?_⟩
      have hj : j < sz := by have := (List.getElem?_eq_some_iff.1 hu).1; rw [hf] at this; exact this
      rw [hat j hj, hu])
    refine ⟨some a, len, cap', l, hcs, ⟨hlen, fun hn => ?_⟩, hl, hm, fun x hx => ?_⟩
    · have h0 : l[0]? = some (l[0]'(by omega)) := List.getElem?_eq_getElem (by omega)
      have hu : (f (l[0]'(by omega)))[0]? = some ((f (l[0]'(by omega)))[0]'(by rw [hf]; omega)) := List.getElem?_eq_getElem (by rw [hf]; omega)
      have hc0 := (hP 0 _ h0).2 0 _ hu
      obtain ⟨b, o, spot⟩ := a
      have hspot : spot = none := by simpa [Addr.add] using World.cell?_spot hc0
      subst hspot
      refine ⟨b, o, rfl, ?_, fun i x hx j u hu => ?_⟩
      · have := World.block_lt_of_cell? w _ hc0
        simpa [Addr.add] using this
      · have := (hP i x hx).2 j u hu
        rw [add_plain, add_plain] at this
        exact this
    · obtain ⟨i, hi, rfl⟩ := List.mem_iff_getElem.1 hx
      exact (hP i _ (List.getElem?_eq_getElem hi)).1
end
namespace Bk
theorem dk_int : Tryz.prog.cellsOf 3 = 1 := by kernel_rfl
theorem dk_strs : Tryz.prog.cellsOf 30 = 1 := by kernel_rfl
/-- A string's cell. -/
def sb (s : ByteArray) : List Value := [.string s]
theorem sl_conv {w : World} {B n : Nat} {A : Option Addr} {l : List ByteArray} (h : Sl w B sb 1 A n l) : Sl w B se 1 A n (l.map fun s => s.data.toList) := by
  refine ⟨by rw [List.length_map]; exact h.len, fun h0 => ?_⟩
  obtain ⟨b, o, e, hlt, hc⟩ := h.cells h0
  refine ⟨b, o, e, hlt, fun i a ha j v hv => ?_⟩
  rw [List.getElem?_map] at ha
  cases hl : l[i]? with
  | none => rw [hl] at ha; cases ha
  | some s =>
    rw [hl] at ha
    have e2 : s.data.toList = a := Option.some.inj ha
    refine hc i s hl j v ?_
    rw [← hv, ← e2]
    rfl
/-- A deed as its cells have it. -/
structure Dd where
  what : Int
  a : Int
  b : Int
  A : Option Addr
  n : Nat
  c : Nat
  l : List ByteArray
def Dd.cs (d : Dd) : List Value := [.int .i64 d.what, .int .i64 d.a, .int .i64 d.b, .slice d.A d.n d.c]
structure Dd.ok (d : Dd) (w : World) : Prop where
  len : d.n ≤ maxLen
  sl : Sl w w.heap.size sb 1 d.A d.n d.l
  fit : ∀ s ∈ d.l, s.size ≤ maxLen
section
variable {H : Type} {enc : TypeId × Value → H} {w : World} {b0 : Nat} {v : Value} {d : DataW H} {p : List MemPlace} {r : Reach}
theorem el_strG (n : Nat) (cs : List Value) (x : DataW H × List MemPlace)
    (h : DataW.trod enc Tryz.prog w 0 (fun _ => true) true n 9 cs = some x) : ∃ a : ByteArray, cs = sb a ∧ a.size ≤ maxLen := by
  obtain ⟨a, e, _, hs⟩ := DataW.trod_string Tryz.underlying9 h
  exact ⟨a, e, hs⟩
set_option maxRecDepth 100000 in
theorem el_deed (n : Nat) (cs : List Value) (x : DataW H × List MemPlace)
    (h : DataW.trod enc Tryz.prog w 0 (fun _ => true) true n 32 cs = some x) : ∃ a : Dd, cs = a.cs ∧ a.ok w := by
  obtain ⟨ys, m, _, rfl, hl, hlen, hf⟩ := DataW.trod_struct Tryz.underlying32 h
  obtain ⟨c0, c1, c2, c3, rfl⟩ : ∃ c0 c1 c2 c3, cs = [c0, c1, c2, c3] := by
    have : cs.length = 4 := hl.trans (by kernel_rfl)
    match cs, this with
    | [c0, c1, c2, c3], _ => exact ⟨c0, c1, c2, c3, rfl⟩
  match ys, hlen with
  | [y0, y1, y2, y3], _ =>
    have h0 := hf 0 _ rfl
    have h1 := hf 1 _ rfl
    have h2 := hf 2 _ rfl
    have h3 := hf 3 _ rfl
    simp [dk_int, dk_strs] at h0 h1 h2 h3
    obtain ⟨a, e0, _, _⟩ := DataW.trod_int Tryz.underlying3 h0
    obtain ⟨b, e1, _, _⟩ := DataW.trod_int Tryz.underlying3 h1
    obtain ⟨c, e2, _, _⟩ := DataW.trod_int Tryz.underlying3 h2
    obtain ⟨A, k, cap, l, e3, hsl, hnc, hcm, hg⟩ := open_slr (e := 9) (sz := 1) sb (fun a => a.size ≤ maxLen) Tryz.underlying30 (by kernel_rfl) (by decide) (fun _ => rfl) (fun n cs x hx => el_strG n cs x hx) h3
    simp at e0 e1 e2 e3
    exact ⟨⟨a, b, c, A, k, cap, l⟩, by simp [e0, e1, e2, e3, Dd.cs], Nat.le_trans hnc hcm, hsl, hg⟩
set_option maxRecDepth 100000 in
theorem open_deeds (hv : Value.okWide Tryz.prog w r b0 22 v) (h : DataW.Trod enc Tryz.prog w 0 (fun _ => true) true 22 v d p) :
    ∃ (A : Option Addr) (n cap : Nat) (l : List Dd), v = .slice A n cap ∧ Sl w w.heap.size Dd.cs 4 A n l ∧ n ≤ cap ∧ cap ≤ maxLen ∧ ∀ a ∈ l, a.ok w :=
  open_sl Dd.cs (fun a => a.ok w) Tryz.underlying22 (by kernel_rfl) (by decide) (fun _ => rfl) (fun n cs x hx => el_deed n cs x hx) hv h
end
end Bk
end Go.Proofs.YtapfcnfmonknjaaGreatDoor
