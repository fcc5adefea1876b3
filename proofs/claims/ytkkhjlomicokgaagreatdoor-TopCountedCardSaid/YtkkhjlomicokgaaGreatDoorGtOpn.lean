/- The arguments of RateGates, opened. -/
import Derived.Test.YtkkhjlomicokgaaGreatDoorTpA
import Derived.Test.YtkkhjlomicokgaaGreatDoorTpD
import Derived.Lib.SmallJoins
import Derived.ProofKit
import Derived.Deep.Strs
namespace Go.Proofs.YtkkhjlomicokgaaGreatDoor
open Go.RowKit Go.ChangeShapes Go.WideShapes Go.Joins Go.Deep
set_option linter.unusedVariables false
theorem kc_str : Tryz.prog.cellsOf 9 = 1 := by kernel_rfl
theorem kc_int : Tryz.prog.cellsOf 3 = 1 := by kernel_rfl
theorem kc_bkt : Tryz.prog.cellsOf 65 = 3 := by kernel_rfl
theorem kc_rates : Tryz.prog.cellsOf 61 = 1 := by kernel_rfl
section
variable {α : Type} {H : Type} {enc : TypeId × Value → H} {w : World}
set_option maxRecDepth 100000 in
/-- A slice in cells, opened. -/
theorem open_slr {t e sz fuel : Nat} {cs : List Value} {x : DataW H × List MemPlace} (f : α → List Value) (G : α → Prop) (ht : Tryz.prog.underlying t = some (.slice e)) (hC : Tryz.prog.cellsOf e = sz) (hsz : 0 < sz) (hf : ∀ a, (f a).length = sz)
    (hel : ∀ (n : Nat) (cs : List Value) (x : DataW H × List MemPlace), DataW.trod enc Tryz.prog w 0 (fun _ => true) true n e cs = some x → ∃ a, cs = f a ∧ G a)
    (h : DataW.trod enc Tryz.prog w 0 (fun _ => true) true fuel t cs = some x) :
    ∃ (A : Option Addr) (n cap : Nat) (l : List α), cs = [.slice A n cap] ∧ Sl w w.heap.size f sz A n l ∧ n ≤ cap ∧ cap ≤ maxLen ∧ ∀ a ∈ l, G a := by
  rcases open_slice ht h with ⟨hcs, _⟩ | ⟨a, len, cap', m, k, D, Pl, hcs, _, hl, hm, hmm, _, hi⟩
  · exact ⟨none, 0, 0, [], hcs, Sl.nil _ _ _ _ _, Nat.le_refl _, Nat.zero_le _, by simp⟩
  · have hm' : m = cap' := by simpa using hmm
    obtain ⟨l, hlen, hP⟩ := list_of (P := fun i (x : α) => G x ∧ ∀ j u, (f x)[j]? = some u → w.cell? ((a.add (i * sz)).add j) = some u) len (fun i hin => by
      obtain ⟨cs', hc', ht'⟩ := hi i (by omega)
      obtain ⟨x, rfl, hG⟩ := hel _ _ _ ht'
      obtain ⟨_, hcl, hat⟩ := World.cells?_some hc'
      rw [hC] at hcl hat hc'
      refine ⟨x, hG, fun j u hu => ?_⟩
      have hj : j < sz := by have := (List.getElem?_eq_some_iff.1 hu).1; rw [hf] at this; exact this
      rw [hat j hj, hu])
    refine ⟨some a, len, cap', l, hcs, ⟨hlen, fun hn => ?_⟩, hl, hm, fun x hx => ?_⟩
    · have h0 : l[0]? = some (l[0]'(by omega)) := List.getElem?_eq_getElem (by omega)
      have hu : (f (l[0]'(by omega)))[0]? = some ((f (l[0]'(by omega)))[0]'(by rw [hf]; omega)) := List.getElem?_eq_getElem (by rw [hf]; omega)
      have hc0 := (hP 0 _ h0).2 0 _ hu
      obtain ⟨b, o, spot⟩ := a
      have hspot : spot = none := by simpa [Addr.add] using World.cell?_spot hc0
      subst hspot
      refine ⟨b, o, rfl, ?_, fun i x hx j u hu => ?_⟩
      · have := World.block_lt_of_cell? w _ hc0
        simpa [Addr.add] using this
      · have := (hP i x hx).2 j u hu
        rw [add_plain, add_plain] at this
        exact this
    · obtain ⟨i, hi, rfl⟩ := List.mem_iff_getElem.1 hx
      exact (hP i _ (List.getElem?_eq_getElem hi)).1
end
structure KnockT where
  what : Int
  id : ByteArray
  key : ByteArray
  at_ : Int
  A : Option Addr
  n : Nat
  cap : Nat
  rates : List RtK
def KnockT.cs (x : KnockT) : List Value := [.int .i64 x.what, .string x.id, .string x.key, .int .i64 x.at_, .slice x.A x.n x.cap]
def KnockT.ok (w : World) (x : KnockT) : Prop := x.id.size ≤ maxLen ∧ x.key.size ≤ maxLen ∧ x.n ≤ maxLen ∧ x.n ≤ x.cap ∧ Sl w w.heap.size RtK.cs 2 x.A x.n x.rates ∧ RkFit x.rates
section
variable {H : Type} {enc : TypeId × Value → H} {w : World} {b0 : Nat} {v : Value} {d : DataW H} {p : List MemPlace} {r : Reach}
set_option maxRecDepth 100000 in
theorem el_rate (n : Nat) (cs : List Value) (x : DataW H × List MemPlace)
    (h : DataW.trod enc Tryz.prog w 0 (fun _ => true) true n 128 cs = some x) : ∃ a : RtK, cs = a.cs ∧ a.key.size ≤ maxLen := by
  obtain ⟨y0, y1, m, rfl, hl, h0, h1⟩ := trod_struct2 Tryz.underlying128 h
  obtain ⟨c0, c1, rfl⟩ : ∃ c0 c1, cs = [c0, c1] := by
    have : cs.length = 2 := hl.trans (by kernel_rfl)
    match cs, this with
    | [c0, c1], _ => exact ⟨c0, c1, rfl⟩
  simp [kc_str, kc_int] at h0 h1
  obtain ⟨s, e, _, hs⟩ := DataW.trod_string Tryz.underlying9 h0
  obtain ⟨a, f, _, _⟩ := DataW.trod_int Tryz.underlying3 h1
  simp at e f
  exact ⟨⟨s, a⟩, by simp [e, f, RtK.cs], hs⟩
set_option maxRecDepth 100000 in
theorem el_quota (n : Nat) (cs : List Value) (x : DataW H × List MemPlace)
    (h : DataW.trod enc Tryz.prog w 0 (fun _ => true) true n 67 cs = some x) : ∃ a : Qt, cs = a.cs ∧ a.name.size ≤ maxLen ∧ a.key.size ≤ maxLen := by
  obtain ⟨y0, y1, y2, m, rfl, hl, h0, h1, h2⟩ := trod_struct3 Tryz.underlying67 h
  obtain ⟨c0, c1, c2, c3, c4, rfl⟩ : ∃ c0 c1 c2 c3 c4, cs = [c0, c1, c2, c3, c4] := by
    have : cs.length = 5 := hl.trans (by kernel_rfl)
    match cs, this with
    | [c0, c1, c2, c3, c4], _ => exact ⟨c0, c1, c2, c3, c4, rfl⟩
  simp [kc_str, kc_bkt] at h0 h1 h2
  obtain ⟨s, e0, _, hs0⟩ := DataW.trod_string Tryz.underlying9 h0
  obtain ⟨k, e1, _, hs1⟩ := DataW.trod_string Tryz.underlying9 h1
  obtain ⟨z0, z1, z2, m2, rfl, hl2, g0, g1, g2⟩ := trod_struct3 Tryz.underlying65 h2
  simp [kc_int] at g0 g1 g2
  obtain ⟨a, f0, _, _⟩ := DataW.trod_int Tryz.underlying3 g0
  obtain ⟨b, f1, _, _⟩ := DataW.trod_int Tryz.underlying3 g1
  obtain ⟨c, f2, _, _⟩ := DataW.trod_int Tryz.underlying3 g2
  simp at e0 e1 f0 f1 f2
  exact ⟨⟨s, k, a, b, c⟩, by simp [e0, e1, f0, f1, f2, Qt.cs], hs0, hs1⟩
set_option maxRecDepth 100000 in
theorem open_quotas (hv : Value.okWide Tryz.prog w r b0 22 v) (h : DataW.Trod enc Tryz.prog w 0 (fun _ => true) true 22 v d p) :
    ∃ (A : Option Addr) (n cap : Nat) (l : List Qt), v = .slice A n cap ∧ Sl w w.heap.size Qt.cs 5 A n l ∧ n ≤ cap ∧ cap ≤ maxLen ∧ QtFit l :=
  open_sl Qt.cs (fun a => a.name.size ≤ maxLen ∧ a.key.size ≤ maxLen) Tryz.underlying22 (by kernel_rfl) (by decide) (fun _ => rfl) (fun n cs x hx => el_quota n cs x hx) hv h
set_option maxRecDepth 100000 in
theorem open_rates (hv : Value.okWide Tryz.prog w r b0 61 v) (h : DataW.Trod enc Tryz.prog w 0 (fun _ => true) true 61 v d p) :
    ∃ (A : Option Addr) (n cap : Nat) (l : List RtK), v = .slice A n cap ∧ Sl w w.heap.size RtK.cs 2 A n l ∧ n ≤ cap ∧ cap ≤ maxLen ∧ RkFit l :=
  open_sl RtK.cs (fun a => a.key.size ≤ maxLen) Tryz.underlying61 (by kernel_rfl) (by decide) (fun _ => rfl) (fun n cs x hx => el_rate n cs x hx) hv h
end
end Go.Proofs.YtkkhjlomicokgaaGreatDoor
