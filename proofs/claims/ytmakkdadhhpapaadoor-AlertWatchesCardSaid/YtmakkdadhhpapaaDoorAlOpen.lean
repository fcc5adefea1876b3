/- The arguments of type []Rule and []Beat, opened. -/
import Derived.Test.YtmakkdadhhpapaaDoorOpenSl
import Derived.Test.YtmakkdadhhpapaaDoorAlErr
import Derived.Test.YtmakkdadhhpapaaDoorAlSil
import Derived.Lib.SmallJoins
import Derived.ProofKit
import Derived.Deep.Strs
namespace Go.Proofs.YtmakkdadhhpapaaDoor
open Go.RowKit Go.ChangeShapes Go.WideShapes Go.Joins Go.Deep
theorem k_string : Tryd.prog.cellsOf 9 = 1 := by kernel_rfl
theorem k_int : Tryd.prog.cellsOf 3 = 1 := by kernel_rfl
theorem k_sils : Tryd.prog.cellsOf 32 = 1 := by kernel_rfl
section
variable {α : Type} {H : Type} {enc : TypeId × Value → H} {w : World}
set_option maxRecDepth 100000 in
/-- A slice in cells, opened. -/
theorem open_slr {t e sz fuel : Nat} {cs : List Value} {x : DataW H × List MemPlace} (f : α → List Value) (G : α → Prop) (ht : Tryd.prog.underlying t = some (.slice e)) (hC : Tryd.prog.cellsOf e = sz) (hsz : 0 < sz) (hf : ∀ a, (f a).length = sz)
    (hel : ∀ (n : Nat) (cs : List Value) (x : DataW H × List MemPlace), DataW.trod enc Tryd.prog w 0 (fun _ => true) true n e cs = some x → ∃ a, cs = f a ∧ G a)
    (h : DataW.trod enc Tryd.prog w 0 (fun _ => true) true fuel t cs = some x) :
    ∃ (A : Option Addr) (n cap : Nat) (l : List α), cs = [.slice A n cap] ∧ Sl w w.heap.size f sz A n l ∧ n ≤ cap ∧ cap ≤ maxLen ∧ ∀ a ∈ l, G a := by
  rcases open_slice ht h with ⟨hcs, _⟩ | ⟨a, len, cap', m, k, D, Pl, hcs, _, hl, hm, hmm, _, hi⟩
  · exact ⟨none, 0, 0, [], hcs, Sl.nil _ _ _ _ _, Nat.le_refl _, Nat.zero_le _, by simp⟩
  · have hm' : m = cap' := by simpa using hmm
    obtain ⟨l, hlen, hP⟩ := list_of (P := fun i (x : α) => G x ∧ ∀ j u, (f x)[j]? = some u → w.cell? ((a.add (i * sz)).add j) = some u) len (fun i hin => by
      obtain ⟨cs', hc', ht'⟩ := hi i (by omega)
      obtain ⟨x, rfl, hG⟩ := hel _ _ _ ht'
      obtain ⟨_, hcl, hat⟩ := World.cells?_some hc'
      rw [hC] at hcl hat hc'
      refine ⟨x, hG, fun j u hu => ?_⟩
      have hj : j < sz := by have := (List.getElem?_eq_some_iff.1 hu).1; rw [hf] at this; exact this
      rw [hat j hj, hu])
    refine ⟨some a, len, cap', l, hcs, ⟨hlen, fun hn => ?_⟩, hl, hm, fun x hx => ?_⟩
    · have h0 : l[0]? = some (l[0]'(by omega)) := List.getElem?_eq_getElem (by omega)
      have hu : (f (l[0]'(by omega)))[0]? = some ((f (l[0]'(by omega)))[0]'(by rw [hf]; omega)) := List.getElem?_eq_getElem (by rw [hf]; omega)
      have hc0 := (hP 0 _ h0).2 0 _ hu
      obtain ⟨b, o, spot⟩ := a
      have hspot : spot = none := by simpa [Addr.add] using World.cell?_spot hc0
      subst hspot
      refine ⟨b, o, rfl, ?_, fun i x hx j u hu => ?_⟩
      · have := World.block_lt_of_cell? w _ hc0
        simpa [Addr.add] using this
      · have := (hP i x hx).2 j u hu
        rw [add_plain, add_plain] at this
        exact this
    · obtain ⟨i, hi, rfl⟩ := List.mem_iff_getElem.1 hx
      exact (hP i _ (List.getElem?_eq_getElem hi)).1
end
structure BeatT where
  what : Int
  at_ : Int
  n : Int
  key : ByteArray
  A : Option Addr
  k : Nat
  cap : Nat
  sils : List Sil
def BeatT.cs (x : BeatT) : List Value := [.int .i64 x.what, .int .i64 x.at_, .int .i64 x.n, .string x.key, .slice x.A x.k x.cap]
def BeatT.ok (w : World) (x : BeatT) : Prop := x.key.size ≤ maxLen ∧ x.k ≤ maxLen ∧ x.k ≤ x.cap ∧ Sl w w.heap.size Sil.cs 3 x.A x.k x.sils ∧ SilFit x.sils
section
variable {H : Type} {enc : TypeId × Value → H} {w : World} {b0 : Nat} {v : Value} {d : DataW H} {p : List MemPlace} {r : Reach}
set_option maxRecDepth 100000 in
theorem el_rule {base : Nat} {spare : Nat → Bool} {held : Bool} (n : Nat) (cs : List Value) (x : DataW H × List MemPlace)
    (h : DataW.trod enc Tryd.prog w base spare held n 55 cs = some x) : ∃ a : Rl, cs = a.cs ∧ (a.name.size ≤ maxLen ∧ a.key.size ≤ maxLen) := by
  obtain ⟨ys, m, _, rfl, hl, hlen, hf⟩ := DataW.trod_struct Tryd.underlying55 h
  obtain ⟨c0, c1, c2, c3, c4, c5, c6, rfl⟩ : ∃ c0 c1 c2 c3 c4 c5 c6, cs = [c0, c1, c2, c3, c4, c5, c6] := by
    have : cs.length = 7 := hl.trans (by kernel_rfl)
    match cs, this with
    | [c0, c1, c2, c3, c4, c5, c6], _ => exact ⟨c0, c1, c2, c3, c4, c5, c6, rfl⟩
  match ys, hlen with
  | [y0, y1, y2, y3, y4, y5, y6], _ =>
    have h0 := hf 0 _ rfl
    have h1 := hf 1 _ rfl
    have h2 := hf 2 _ rfl
    have h3 := hf 3 _ rfl
    have h4 := hf 4 _ rfl
    have h5 := hf 5 _ rfl
    have h6 := hf 6 _ rfl
    simp [k_int, k_string] at h0 h1 h2 h3 h4 h5 h6
    obtain ⟨a, e0, _, s0⟩ := DataW.trod_string Tryd.underlying9 h0
    obtain ⟨b, e1, _, s1⟩ := DataW.trod_string Tryd.underlying9 h1
    obtain ⟨c, e2, _, _⟩ := DataW.trod_int Tryd.underlying3 h2
    obtain ⟨d, e3, _, _⟩ := DataW.trod_int Tryd.underlying3 h3
    obtain ⟨f, e4, _, _⟩ := DataW.trod_int Tryd.underlying3 h4
    obtain ⟨g, e5, _, _⟩ := DataW.trod_int Tryd.underlying3 h5
    obtain ⟨q, e6, _, _⟩ := DataW.trod_int Tryd.underlying3 h6
    simp at e0 e1 e2 e3 e4 e5 e6
    exact ⟨⟨a, b, c, d, f, g, q⟩, by simp [e0, e1, e2, e3, e4, e5, e6, Rl.cs], s0, s1⟩
set_option maxRecDepth 100000 in
theorem el_sil {base : Nat} {spare : Nat → Bool} {held : Bool} (n : Nat) (cs : List Value) (x : DataW H × List MemPlace)
    (h : DataW.trod enc Tryd.prog w base spare held n 87 cs = some x) : ∃ a : Sil, cs = a.cs ∧ a.rule.size ≤ maxLen := by
  obtain ⟨y0, y1, y2, m, rfl, hl, h0, h1, h2⟩ := trod_struct3 Tryd.underlying87 h
  obtain ⟨c0, c1, c2, rfl⟩ : ∃ c0 c1 c2, cs = [c0, c1, c2] := by
    have : cs.length = 3 := hl.trans (by kernel_rfl)
    match cs, this with
    | [c0, c1, c2], _ => exact ⟨c0, c1, c2, rfl⟩
  simp [k_int, k_string] at h0 h1 h2
  obtain ⟨a, e, _, s0⟩ := DataW.trod_string Tryd.underlying9 h0
  obtain ⟨b, f, _, _⟩ := DataW.trod_int Tryd.underlying3 h1
  obtain ⟨c, g, _, _⟩ := DataW.trod_int Tryd.underlying3 h2
  simp at e f g
  exact ⟨⟨a, b, c⟩, by simp [e, f, g, Sil.cs], s0⟩
set_option maxRecDepth 100000 in
theorem el_beat (n : Nat) (cs : List Value) (x : DataW H × List MemPlace)
    (h : DataW.trod enc Tryd.prog w 0 (fun _ => true) true n 34 cs = some x) : ∃ a : BeatT, cs = a.cs ∧ a.ok w := by
  obtain ⟨ys, m, _, rfl, hl, hlen, hf⟩ := DataW.trod_struct Tryd.underlying34 h
  obtain ⟨c0, c1, c2, c3, c4, rfl⟩ : ∃ c0 c1 c2 c3 c4, cs = [c0, c1, c2, c3, c4] := by
    have : cs.length = 5 := hl.trans (by kernel_rfl)
    match cs, this with
    | [c0, c1, c2, c3, c4], _ => exact ⟨c0, c1, c2, c3, c4, rfl⟩
  match ys, hlen with
  | [y0, y1, y2, y3, y4], _ =>
    have h0 := hf 0 _ rfl
    have h1 := hf 1 _ rfl
    have h2 := hf 2 _ rfl
    have h3 := hf 3 _ rfl
    have h4 := hf 4 _ rfl
    simp [k_int, k_string, k_sils] at h0 h1 h2 h3 h4
    obtain ⟨a, e0, _, _⟩ := DataW.trod_int Tryd.underlying3 h0
    obtain ⟨b, e1, _, _⟩ := DataW.trod_int Tryd.underlying3 h1
    obtain ⟨c, e2, _, _⟩ := DataW.trod_int Tryd.underlying3 h2
    obtain ⟨d, e3, _, s3⟩ := DataW.trod_string Tryd.underlying9 h3
    obtain ⟨A, k, cap, l, e4, hsl, hnc, hcm, hfl⟩ := open_slr (e := 87) (sz := 3) Sil.cs (fun a => a.rule.size ≤ maxLen) Tryd.underlying32 (by kernel_rfl) (by decide) (fun _ => rfl) (fun n cs x hx => el_sil n cs x hx) h4
    simp at e0 e1 e2 e3 e4
    exact ⟨⟨a, b, c, d, A, k, cap, l⟩, by simp [e0, e1, e2, e3, e4, BeatT.cs], s3, Nat.le_trans hnc hcm, hnc, hsl, hfl⟩
set_option maxRecDepth 100000 in
theorem open_rules (hv : Value.okWide Tryd.prog w r b0 22 v) (h : DataW.Trod enc Tryd.prog w 0 (fun _ => true) true 22 v d p) :
    ∃ (A : Option Addr) (n cap : Nat) (l : List Rl), v = .slice A n cap ∧ Sl w w.heap.size Rl.cs 7 A n l ∧ n ≤ cap ∧ cap ≤ maxLen ∧ RlFit l :=
  open_sl Rl.cs (fun a => a.name.size ≤ maxLen ∧ a.key.size ≤ maxLen) Tryd.underlying22 (by kernel_rfl) (by decide) (fun _ => rfl) (fun n cs x hx => el_rule n cs x hx) hv h
set_option maxRecDepth 100000 in
theorem open_beats (hv : Value.okWide Tryd.prog w r b0 23 v) (h : DataW.Trod enc Tryd.prog w 0 (fun _ => true) true 23 v d p) :
    ∃ (A : Option Addr) (n cap : Nat) (l : List BeatT), v = .slice A n cap ∧ Sl w w.heap.size BeatT.cs 5 A n l ∧ n ≤ cap ∧ cap ≤ maxLen ∧ ∀ a ∈ l, a.ok w :=
  open_sl BeatT.cs (fun a => a.ok w) Tryd.underlying23 (by kernel_rfl) (by decide) (fun _ => rfl) (fun n cs x hx => el_beat n cs x hx) hv h
end
end Go.Proofs.YtmakkdadhhpapaaDoor
