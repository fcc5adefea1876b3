/- OpenSl, GtOpn: texts of one's own, in one file. -/
import Derived.Test.YtkoijhecahebgaaDoorProg
import Derived.Test.YtkoijhecahebgaaDoorMem
import Derived.ProofKit
import Derived.Deep.Slices
import Derived.Lib.SmallJoins
import Derived.Test.YtkoijhecahebgaaDoorGtQt
import Derived.Deep.Strs
/- A slice that came in, opened to a Lean list. No program of its own: over the seat's program. -/
namespace Go.Proofs.YtkoijhecahebgaaDoor
open Go.RowKit Go.ChangeShapes Go.WideShapes Go.Deep
theorem list_of {α : Type} {P : Nat → α → Prop} : ∀ m : Nat, (∀ i, i < m → ∃ a, P i a) → ∃ l : List α, l.length = m ∧ ∀ i a, l[i]? = some a → P i a := by
  intro m
  induction m with
  | zero => intro _; exact ⟨[], rfl, by simp⟩
  | succ m ih =>
    intro h
    obtain ⟨l, hl, hp⟩ := ih fun i hi => h i (by omega)
    obtain ⟨a, ha⟩ := h m (by omega)
    refine ⟨l ++ [a], by simp [hl], fun i b hb => ?_⟩
    by_cases hi : i < m
    · rw [List.getElem?_append_left (by omega)] at hb; exact hp i b hb
    · rw [List.getElem?_append_right (by omega)] at hb
      have : i - l.length = 0 := by
        rcases Nat.eq_zero_or_pos (i - l.length) with h0 | h0
        · exact h0
        · rw [List.getElem?_eq_none (by simp; omega)] at hb; cases hb
      rw [this] at hb
      simp at hb
      subst hb
      rwa [show i = m by omega]
section
variable {α : Type} {H : Type} {enc : TypeId × Value → H} {w : World} {base b0 : Nat} {v : Value} {d : DataW H} {p : List MemPlace} {r : Reach}
set_option maxRecDepth 100000 in
/-- What an element reads as is told by `hel`; G: what is known of each. -/
theorem open_sl {t e sz : Nat} (f : α → List Value) (G : α → Prop) (ht : Tryd.prog.underlying t = some (.slice e)) (hC : Tryd.prog.cellsOf e = sz) (hsz : 0 < sz) (hf : ∀ a, (f a).length = sz)
    (hel : ∀ (n : Nat) (cs : List Value) (x : DataW H × List MemPlace), DataW.trod enc Tryd.prog w 0 (fun _ => true) true n e cs = some x → ∃ a, cs = f a ∧ G a)
    (hv : Value.okWide Tryd.prog w r b0 t v) (h : DataW.Trod enc Tryd.prog w 0 (fun _ => true) true t v d p) :
    ∃ (A : Option Addr) (n cap : Nat) (l : List α), v = .slice A n cap ∧ Sl w w.heap.size f sz A n l ∧ n ≤ cap ∧ cap ≤ maxLen ∧ ∀ a ∈ l, G a := by
  obtain ⟨A, n, cap, rfl⟩ := okWide_slice ht hv
  obtain ⟨fuel, hfu⟩ := h
  rcases open_slice ht hfu with ⟨hcs, _⟩ | ⟨a, len, cap', m, k, D, Pl, hcs, _, hl, hm, hmm, _, hi⟩
  · simp [Value.cells] at hcs
    obtain ⟨rfl, rfl, rfl⟩ := hcs
    exact ⟨none, 0, 0, [], rfl, Sl.nil _ _ _ _ _, Nat.le_refl _, Nat.zero_le _, by simp⟩
  · simp [Value.cells] at hcs
    obtain ⟨rfl, rfl, rfl⟩ := hcs
    have hm' : m = cap := by simpa using hmm
    obtain ⟨l, hlen, hP⟩ := list_of (P := fun i (x : α) => G x ∧ ∀ j u, (f x)[j]? = some u → w.cell? ((a.add (i * sz)).add j) = some u) n (fun i hin => by
      obtain ⟨cs', hc', ht'⟩ := hi i (by omega)
      obtain ⟨x, rfl, hG⟩ := hel _ _ _ ht'
      obtain ⟨_, hcl, hat⟩ := World.cells?_some hc'
      rw [hC] at hcl hat hc'
      refine ⟨x, hG, fun j u hu => ?_⟩
      have hj : j < sz := by have := (List.getElem?_eq_some_iff.1 hu).1; rw [hf] at this; exact this
      rw [hat j hj, hu])
    refine ⟨some a, n, cap, l, rfl, ⟨hlen, fun hn => ?_⟩, hl, hm, fun x hx => ?_⟩
    · have h0 : l[0]? = some (l[0]'(by omega)) := List.getElem?_eq_getElem (by omega)
      have hu : (f (l[0]'(by omega)))[0]? = some ((f (l[0]'(by omega)))[0]'(by rw [hf]; omega)) := List.getElem?_eq_getElem (by rw [hf]; omega)
      have hc0 := (hP 0 _ h0).2 0 _ hu
      obtain ⟨b, o, spot⟩ := a
      have hspot : spot = none := by simpa [Addr.add] using World.cell?_spot hc0
      subst hspot
      refine ⟨b, o, rfl, ?_, fun i x hx j u hu => ?_⟩
      · have := World.block_lt_of_cell? w _ hc0
        simpa [Addr.add] using this
      · have := (hP i x hx).2 j u hu
        rw [add_plain, add_plain] at this
        exact this
    · obtain ⟨i, hi, rfl⟩ := List.mem_iff_getElem.1 hx
      exact (hP i _ (List.getElem?_eq_getElem hi)).1
end
end Go.Proofs.YtkoijhecahebgaaDoor

/- The arguments of RateGates, opened. -/
namespace Go.Proofs.YtkoijhecahebgaaDoor
open Go.RowKit Go.ChangeShapes Go.WideShapes Go.Joins Go.Deep
set_option linter.unusedVariables false
theorem kc_str : Tryd.prog.cellsOf 9 = 1 := by kernel_rfl
theorem kc_int : Tryd.prog.cellsOf 3 = 1 := by kernel_rfl
theorem kc_bkt : Tryd.prog.cellsOf 54 = 3 := by kernel_rfl
theorem kc_rates : Tryd.prog.cellsOf 23 = 1 := by kernel_rfl
section
variable {α : Type} {H : Type} {enc : TypeId × Value → H} {w : World}
set_option maxRecDepth 100000 in
/-- A slice in cells, opened. -/
theorem open_slr {t e sz fuel : Nat} {cs : List Value} {x : DataW H × List MemPlace} (f : α → List Value) (G : α → Prop) (ht : Tryd.prog.underlying t = some (.slice e)) (hC : Tryd.prog.cellsOf e = sz) (hsz : 0 < sz) (hf : ∀ a, (f a).length = sz)
    (hel : ∀ (n : Nat) (cs : List Value) (x : DataW H × List MemPlace), DataW.trod enc Tryd.prog w 0 (fun _ => true) true n e cs = some x → ∃ a, cs = f a ∧ G a)
    (h : DataW.trod enc Tryd.prog w 0 (fun _ => true) true fuel t cs = some x) :
    ∃ (A : Option Addr) (n cap : Nat) (l : List α), cs = [.slice A n cap] ∧ Sl w w.heap.size f sz A n l ∧ n ≤ cap ∧ cap ≤ maxLen ∧ ∀ a ∈ l, G a := by
  rcases open_slice ht h with ⟨hcs, _⟩ | ⟨a, len, cap', m, k, D, Pl, hcs, _, hl, hm, hmm, _, hi⟩
  · exact ⟨none, 0, 0, [], hcs, Sl.nil _ _ _ _ _, Nat.le_refl _, Nat.zero_le _, by simp⟩
  · have hm' : m = cap' := by simpa using hmm
    obtain ⟨l, hlen, hP⟩ := list_of (P := fun i (x : α) => G x ∧ ∀ j u, (f x)[j]? = some u → w.cell? ((a.add (i * sz)).add j) = some u) len (fun i hin => by
      obtain ⟨cs', hc', ht'⟩ := hi i (by omega)
      obtain ⟨x, rfl, hG⟩ := hel _ _ _ ht'
      obtain ⟨_, hcl, hat⟩ := World.cells?_some hc'
      rw [hC] at hcl hat hc'
      refine ⟨x, hG, fun j u hu => ?_⟩
      have hj : j < sz := by have := (List.getElem?_eq_some_iff.1 hu).1; rw [hf] at this; exact this
      rw [hat j hj, hu])
    refine ⟨some a, len, cap', l, hcs, ⟨hlen, fun hn => ?_⟩, hl, hm, fun x hx => ?_⟩
    · have h0 : l[0]? = some (l[0]'(by omega)) := List.getElem?_eq_getElem (by omega)
      have hu : (f (l[0]'(by omega)))[0]? = some ((f (l[0]'(by omega)))[0]'(by rw [hf]; omega)) := List.getElem?_eq_getElem (by rw [hf]; omega)
      have hc0 := (hP 0 _ h0).2 0 _ hu
      obtain ⟨b, o, spot⟩ := a
      have hspot : spot = none := by simpa [Addr.add] using World.cell?_spot hc0
      subst hspot
      refine ⟨b, o, rfl, ?_, fun i x hx j u hu => ?_⟩
      · have := World.block_lt_of_cell? w _ hc0
        simpa [Addr.add] using this
      · have := (hP i x hx).2 j u hu
        rw [add_plain, add_plain] at this
        exact this
    · obtain ⟨i, hi, rfl⟩ := List.mem_iff_getElem.1 hx
      exact (hP i _ (List.getElem?_eq_getElem hi)).1
end
structure KnockT where
  what : Int
  id : ByteArray
  key : ByteArray
  at_ : Int
  A : Option Addr
  n : Nat
  cap : Nat
  rates : List RtK
def KnockT.cs (x : KnockT) : List Value := [.int .i64 x.what, .string x.id, .string x.key, .int .i64 x.at_, .slice x.A x.n x.cap]
def KnockT.ok (w : World) (x : KnockT) : Prop := x.id.size ≤ maxLen ∧ x.key.size ≤ maxLen ∧ x.n ≤ maxLen ∧ x.n ≤ x.cap ∧ Sl w w.heap.size RtK.cs 2 x.A x.n x.rates ∧ RkFit x.rates
section
variable {H : Type} {enc : TypeId × Value → H} {w : World} {b0 : Nat} {v : Value} {d : DataW H} {p : List MemPlace} {r : Reach}
set_option maxRecDepth 100000 in
theorem el_rate (n : Nat) (cs : List Value) (x : DataW H × List MemPlace)
    (h : DataW.trod enc Tryd.prog w 0 (fun _ => true) true n 73 cs = some x) : ∃ a : RtK, cs = a.cs ∧ a.key.size ≤ maxLen := by
  obtain ⟨y0, y1, m, rfl, hl, h0, h1⟩ := trod_struct2 Tryd.underlying73 h
  obtain ⟨c0, c1, rfl⟩ : ∃ c0 c1, cs = [c0, c1] := by
    have : cs.length = 2 := hl.trans (by kernel_rfl)
    match cs, this with
    | [c0, c1], _ => exact ⟨c0, c1, rfl⟩
  simp [kc_str, kc_int] at h0 h1
  obtain ⟨s, e, _, hs⟩ := DataW.trod_string Tryd.underlying9 h0
  obtain ⟨a, f, _, _⟩ := DataW.trod_int Tryd.underlying3 h1
  simp at e f
  exact ⟨⟨s, a⟩, by simp [e, f, RtK.cs], hs⟩
set_option maxRecDepth 100000 in
theorem el_quota (n : Nat) (cs : List Value) (x : DataW H × List MemPlace)
    (h : DataW.trod enc Tryd.prog w 0 (fun _ => true) true n 58 cs = some x) : ∃ a : Qt, cs = a.cs ∧ a.name.size ≤ maxLen ∧ a.key.size ≤ maxLen := by
  obtain ⟨y0, y1, y2, m, rfl, hl, h0, h1, h2⟩ := trod_struct3 Tryd.underlying58 h
  obtain ⟨c0, c1, c2, c3, c4, rfl⟩ : ∃ c0 c1 c2 c3 c4, cs = [c0, c1, c2, c3, c4] := by
    have : cs.length = 5 := hl.trans (by kernel_rfl)
    match cs, this with
    | [c0, c1, c2, c3, c4], _ => exact ⟨c0, c1, c2, c3, c4, rfl⟩
  simp [kc_str, kc_bkt] at h0 h1 h2
  obtain ⟨s, e0, _, hs0⟩ := DataW.trod_string Tryd.underlying9 h0
  obtain ⟨k, e1, _, hs1⟩ := DataW.trod_string Tryd.underlying9 h1
  obtain ⟨z0, z1, z2, m2, rfl, hl2, g0, g1, g2⟩ := trod_struct3 Tryd.underlying54 h2
  simp [kc_int] at g0 g1 g2
  obtain ⟨a, f0, _, _⟩ := DataW.trod_int Tryd.underlying3 g0
  obtain ⟨b, f1, _, _⟩ := DataW.trod_int Tryd.underlying3 g1
  obtain ⟨c, f2, _, _⟩ := DataW.trod_int Tryd.underlying3 g2
  simp at e0 e1 f0 f1 f2
  exact ⟨⟨s, k, a, b, c⟩, by simp [e0, e1, f0, f1, f2, Qt.cs], hs0, hs1⟩
set_option maxRecDepth 100000 in
theorem el_knock (n : Nat) (cs : List Value) (x : DataW H × List MemPlace)
    (h : DataW.trod enc Tryd.prog w 0 (fun _ => true) true n 35 cs = some x) : ∃ a : KnockT, cs = a.cs ∧ a.ok w := by
  obtain ⟨ys, m, _, rfl, hl, hlen, hf⟩ := DataW.trod_struct Tryd.underlying35 h
  obtain ⟨c0, c1, c2, c3, c4, rfl⟩ : ∃ c0 c1 c2 c3 c4, cs = [c0, c1, c2, c3, c4] := by
    have : cs.length = 5 := hl.trans (by kernel_rfl)
    match cs, this with
    | [c0, c1, c2, c3, c4], _ => exact ⟨c0, c1, c2, c3, c4, rfl⟩
  match ys, hlen with
  | [y0, y1, y2, y3, y4], _ =>
    have h0 := hf 0 _ rfl
    have h1 := hf 1 _ rfl
    have h2 := hf 2 _ rfl
    have h3 := hf 3 _ rfl
    have h4 := hf 4 _ rfl
    simp [kc_str, kc_int, kc_rates] at h0 h1 h2 h3 h4
    obtain ⟨a, e0, _, _⟩ := DataW.trod_int Tryd.underlying3 h0
    obtain ⟨b, e1, _, s1⟩ := DataW.trod_string Tryd.underlying9 h1
    obtain ⟨c, e2, _, s2⟩ := DataW.trod_string Tryd.underlying9 h2
    obtain ⟨e, e3, _, _⟩ := DataW.trod_int Tryd.underlying3 h3
    obtain ⟨A, k, cap, l, e4, hsl, hnc, hcm, hff⟩ := open_slr (e := 73) (sz := 2) RtK.cs (fun a => a.key.size ≤ maxLen) Tryd.underlying23 (by kernel_rfl) (by decide) (fun _ => rfl) (fun n cs x hx => el_rate n cs x hx) h4
    simp at e0 e1 e2 e3 e4
    exact ⟨⟨a, b, c, e, A, k, cap, l⟩, by simp [e0, e1, e2, e3, e4, KnockT.cs], s1, s2, Nat.le_trans hnc hcm, hnc, hsl, hff⟩
set_option maxRecDepth 100000 in
theorem open_quotas (hv : Value.okWide Tryd.prog w r b0 22 v) (h : DataW.Trod enc Tryd.prog w 0 (fun _ => true) true 22 v d p) :
    ∃ (A : Option Addr) (n cap : Nat) (l : List Qt), v = .slice A n cap ∧ Sl w w.heap.size Qt.cs 5 A n l ∧ n ≤ cap ∧ cap ≤ maxLen ∧ QtFit l :=
  open_sl Qt.cs (fun a => a.name.size ≤ maxLen ∧ a.key.size ≤ maxLen) Tryd.underlying22 (by kernel_rfl) (by decide) (fun _ => rfl) (fun n cs x hx => el_quota n cs x hx) hv h
set_option maxRecDepth 100000 in
theorem open_rates (hv : Value.okWide Tryd.prog w r b0 23 v) (h : DataW.Trod enc Tryd.prog w 0 (fun _ => true) true 23 v d p) :
    ∃ (A : Option Addr) (n cap : Nat) (l : List RtK), v = .slice A n cap ∧ Sl w w.heap.size RtK.cs 2 A n l ∧ n ≤ cap ∧ cap ≤ maxLen ∧ RkFit l :=
  open_sl RtK.cs (fun a => a.key.size ≤ maxLen) Tryd.underlying23 (by kernel_rfl) (by decide) (fun _ => rfl) (fun n cs x hx => el_rate n cs x hx) hv h
set_option maxRecDepth 100000 in
theorem open_knocks (hv : Value.okWide Tryd.prog w r b0 24 v) (h : DataW.Trod enc Tryd.prog w 0 (fun _ => true) true 24 v d p) :
    ∃ (A : Option Addr) (n cap : Nat) (l : List KnockT), v = .slice A n cap ∧ Sl w w.heap.size KnockT.cs 5 A n l ∧ n ≤ cap ∧ cap ≤ maxLen ∧ ∀ a ∈ l, a.ok w :=
  open_sl KnockT.cs (fun a => a.ok w) Tryd.underlying24 (by kernel_rfl) (by decide) (fun _ => rfl) (fun n cs x hx => el_knock n cs x hx) hv h
end
end Go.Proofs.YtkoijhecahebgaaDoor
