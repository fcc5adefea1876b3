/- What the program reads of rules: lines; plain law. -/
import Derived.Test.YtomihkflhhhpjaaDoorGuRd
namespace Go.Proofs.YtomihkflhhhpjaaDoor
open Go.RowKit
set_option linter.unusedVariables false
set_option linter.unusedSimpArgs false
/-- The library's own variable that a search reads is there. -/
def Mx (w : World) : Prop := ∃ m, w.cell? ⟨2, 0, none⟩ = some (.int .i64 m)
theorem Mx.lt {w : World} (h : Mx w) : 2 < w.heap.size := by
  obtain ⟨m, h⟩ := h
  exact World.block_lt_of_cell? w _ h
theorem Mx.up {B : Nat} {w w' : World} (h : Mx w) (hb : Below B w w') (hB : w.heap.size ≤ B) : Mx w' := by
  have := h.lt
  obtain ⟨m, h⟩ := h
  exact ⟨m, (hb.cell (p := ⟨2, 0, none⟩) (by show 2 < B; omega)).trans h⟩
/-- A string, cut at a byte. -/
def cutL (s : ByteArray) (c : UInt8) : ByteArray := ⟨(Lib.cut s.data.toList [c]).1.toArray⟩
def cutR (s : ByteArray) (c : UInt8) : ByteArray := ⟨(Lib.cut s.data.toList [c]).2.1.toArray⟩
def cutK (s : ByteArray) (c : UInt8) : Bool := (Lib.cut s.data.toList [c]).2.2
theorem Cut_any (s : ByteArray) (c : UInt8) (w : World) (hs : s.size ≤ 1000000) (hm : Mx w) :
    Calls Tryd.prog 12 #[.string s, .string ⟨#[c]⟩] w fun e w' => e = .returned (.tuple #[.string (cutL s c), .string (cutR s c), .bool (cutK s c)]) ∧ Below w.heap.size w w' := by
  obtain ⟨m, hm⟩ := hm
  refine (Tryd.strings_Cut s ⟨#[c]⟩ m w (by omega) hm).mono ?_
  rintro e w' ⟨rfl, n, rfl⟩
  exact ⟨rfl, below_drewN (Below.refl _ _) n⟩
theorem cut_size (s : ByteArray) (c : UInt8) : (cutL s c).size ≤ s.size ∧ (cutR s c).size ≤ s.size := by
  have hsz : s.data.toList.length = s.size := by rw [Array.length_toList]; rfl
  unfold cutL cutR Lib.cut
  constructor
  · show List.length _ ≤ _
    split
    · simp only [List.length_take]; omega
    · simp only; omega
  · show List.length _ ≤ _
    split
    · simp only [List.length_drop]; omega
    · simp
theorem cut_dec (s : ByteArray) (c : UInt8) (h : 0 < s.size) : (cutR s c).size < s.size := by
  have hsz : s.data.toList.length = s.size := by rw [Array.length_toList]; rfl
  unfold cutR Lib.cut
  show List.length _ < _
  split
  · simp only [List.length_drop, List.length_singleton]; omega
  · simp; omega
/-- What one line after the other reads as. -/
def rdLines : Nat → List UInt8 → Nat → List (List Mt × List Ac) → Except Nat (List (List Mt × List Ac))
  | 0, _, n, _ => .error n
  | f + 1, l, n, acc => if l = [] then .ok acc else
      match (Lib.cut l [10]).2.2, rdRule (Lib.cut l [10]).1 with
      | true, some r => rdLines f (Lib.cut l [10]).2.1 (n + 1) (acc ++ [r])
      | _, _ => .error n
def Rul.pr (x : Rul) : List Mt × List Ac := (x.ms, x.ac)
def Rul.of (p : List Mt × List Ac) : Rul := ⟨none, 0, 0, p.1, none, 0, 0, p.2⟩
def rlsP (l : List (List Mt × List Ac)) : Int := rlsE (l.map Rul.of)
theorem rlAt_pr (xs : List Rul) (k : Nat) : rlAt ((xs.map Rul.pr).map Rul.of) k = rlAt xs k := by
  unfold rlAt
  rw [List.getElem?_map, List.getElem?_map]
  cases xs[k]? <;> rfl
theorem rlsP_pr (xs : List Rul) : rlsP (xs.map Rul.pr) = rlsE xs := by
  unfold rlsP rlsE
  rw [show rlAt ((xs.map Rul.pr).map Rul.of) = rlAt xs from funext (rlAt_pr xs)]
  simp
/-- What the text reads as: rules, or the number of a line and an error. -/
def rdRules (t : ByteArray) : Except (Nat × Int) (List (List Mt × List Ac)) := if 1000000 < t.size then .error (0, 4) else
  match rdLines (t.data.toList.length + 1) t.data.toList 1 [] with
  | .error k => .error (k, 8)
  | .ok l => if rlsP l = 0 then .ok l else .error (0, rlsP l)
/-- A rule whose two rows are one's own. -/
structure RlO (B : Nat) (x : Rul) (w : World) : Prop where
  r1 : w.ownsRow B 53 3 (.slice x.A x.n x.c) x.n (x.ms.flatMap Mt.cs)
  r2 : w.ownsRow B 56 3 (.slice x.A2 x.n2 x.c2) x.n2 (x.ac.flatMap Ac.cs)
  n1 : x.ms.length = x.n
  n2 : x.ac.length = x.n2
  g1 : ∀ m ∈ x.ms, m.glob.size ≤ 1000000
  g2 : ∀ a ∈ x.ac, a.text.size ≤ 1000000
  l1 : x.n ≤ 1000000
  l2 : x.n2 ≤ 1000000
theorem RlO.below {B : Nat} {x : Rul} {w w' : World} (h : RlO B x w) (hb : Below w.heap.size w w') : RlO B x w' := ⟨own_below h.r1 hb, own_below h.r2 hb, h.n1, h.n2, h.g1, h.g2, h.l1, h.l2⟩
theorem RlO.grown {B n : Nat} {v : Value} {xs : List Value} {x : Rul} {w w' : World} (h : RlO B x w) (hv : w.ownsRow B 44 2 v n xs) (hg : w.grownBy w' v.ownBlock) : RlO B x w' :=
  ⟨h.r1.kept hg (own_apart hv h.r1 (by decide)), h.r2.kept hg (own_apart hv h.r2 (by decide)), h.n1, h.n2, h.g1, h.g2, h.l1, h.l2⟩
theorem RlO.ok {B : Nat} {x : Rul} {w : World} (h : RlO B x w) : x.ok w := by
  obtain ⟨A, c, e1, s1, _⟩ := sl_of_own (f := Mt.cs) (fun _ => rfl) h.n1 h.r1
  obtain ⟨A', c', e2, s2, _⟩ := sl_of_own (f := Ac.cs) (fun _ => rfl) h.n2 h.r2
  have h1 := h.l1
  have h2 := h.l2
  cases e1
  cases e2
  exact ⟨by unfold maxLen; omega, s1, fun m hm => by have := h.g1 m hm; unfold maxLen; omega, by unfold maxLen; omega, s2, fun m hm => by have := h.g2 m hm; unfold maxLen; omega⟩
theorem own_base {b b' sz n : Nat} {e : TypeId} {v : Value} {xs : List Value} {w : World} (h : w.ownsRow b e sz v n xs) (hb : b' ≤ b) : w.ownsRow b' e sz v n xs := by
  refine ⟨h.1, ?_⟩
  rcases h.2 with h0 | ⟨g, cap, cur, h1, h2, h3⟩
  · exact .inl h0
  · exact .inr ⟨g, cap, cur, h1, Nat.le_trans hb h2, h3⟩
/-- What ReadRules answers. -/
def RRs (t : ByteArray) (e : Ending) (w w' : World) : Prop := Below w.heap.size w w' ∧
  match rdRules t with
  | .error x => e = .returned (.tuple #[.slice none 0 0, .int .i64 (x.1 : Nat), .int .i64 x.2])
  | .ok l => ∃ (A : Option Addr) (c : Nat) (xs : List Rul), e = .returned (.tuple #[.slice A xs.length c, .int .i64 0, .int .i64 0]) ∧ Sl w' w'.heap.size Rul.cs 2 A xs.length xs ∧ RulesOk w' xs ∧ xs.map Rul.pr = l ∧ xs.length ≤ t.size
end Go.Proofs.YtomihkflhhhpjaaDoor
