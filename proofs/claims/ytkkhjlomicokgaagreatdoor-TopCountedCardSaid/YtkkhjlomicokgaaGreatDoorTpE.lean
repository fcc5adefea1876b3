/- GtLev, GtLev2, GtCmp, GtClo, GtSrt, GtMap, GtTal, GtTal2, GtGot: texts of one's own, in one file. -/
import Derived.Test.YtkkhjlomicokgaaGreatDoorTpD
import Derived.Test.YtkkhjlomicokgaaGreatDoorTpA
import Derived.Test.YtkkhjlomicokgaaGreatDoorShelf
import Derived.Shelf.SlSortCmp.NoneTotal
import Derived.Deep.Cut
import Derived.Maps.OwnOps
import Derived.WideKeyArgs
import Derived.DeepKeys4
import Derived.MapViews
import Derived.Maps.OwnSet
import Derived.Maps.RangeWalk
/- Walks of checkMoment, Levels and LevelsAt. -/
namespace Go.Proofs.YtkkhjlomicokgaaGreatDoor
open Go.RowKit
set_option linter.unusedVariables false
set_option linter.unusedSimpArgs false
def momE (t g : Int) : Int := if outsideB t 0 3155759999 then 2 else if t < g then 5 else 0
theorem checkMoment_any (p : Nat) (t g : Int) (w : World) (h3 : w.cell? ⟨p, 3, none⟩ = some (.int .i64 g)) :
    Calls Tryz.prog 28 #[.pointer (some ⟨p, 0, none⟩), .int .i64 t] w fun e w' => e = .returned (.int .i64 (momE t g)) ∧ w = w' := by
  have C := hide (fun W => isMoment_any t W)
  cases ho : outsideB t 0 3155759999
  · rw [ho] at C
    by_cases hlt : t < g
    · have E := hide (show momE t g = 5 by rw [momE, ho, if_neg (by decide), if_pos hlt])
      go_enter Tryz.func28, Tryz.ntmps28
      go_wp2_with (first | (go_at_call 19; refine (C.out _).mono ?_; rintro e w' ⟨rfl, rfl⟩))
      go_ret
      exact ⟨by rw [E.out]; rfl, rfl⟩
    · have E := hide (show momE t g = 0 by rw [momE, ho, if_neg (by decide), if_neg hlt])
      have hd : decide (t < g) = false := decide_eq_false hlt
      go_enter Tryz.func28, Tryz.ntmps28
      go_wp2_with (first | (go_at_call 19; refine (C.out _).mono ?_; rintro e w' ⟨rfl, rfl⟩))
      go_ret
      exact ⟨by rw [E.out]; rfl, rfl⟩
  · rw [ho] at C
    have E := hide (show momE t g = 2 by rw [momE, ho, if_pos rfl])
    go_enter Tryz.func28, Tryz.ntmps28
    go_wp2_with (first | (go_at_call 19; refine (C.out _).mono ?_; rintro e w' ⟨rfl, rfl⟩))
    go_ret
    exact ⟨by rw [E.out]; rfl, rfl⟩
/-- Quotas and levels go together. -/
def LvsOk (Q : List Qt) (V : List Lv) : Prop := ∀ (i : Nat) (q : Qt) (x : Lv), Q[i]? = some q → V[i]? = some x → LvOk q x
def poured (t : Int) (Q : List Qt) (V : List Lv) : List Lv := List.zipWith (pourL · t) Q V
theorem poured_len {t : Int} {Q : List Qt} {V : List Lv} (h : V.length = Q.length) : (poured t Q V).length = Q.length := by unfold poured; rw [List.length_zipWith, h, Nat.min_self]
theorem poured_at {t : Int} {Q : List Qt} {V : List Lv} {i : Nat} {q : Qt} {x : Lv} (hq : Q[i]? = some q) (hx : V[i]? = some x) : (poured t Q V)[i]? = some (pourL q t x) := by
  unfold poured; rw [List.getElem?_zipWith, hq, hx]
theorem info_level : (Tryz.prog.info? 76).map (fun i => (i.zero, i.size, i.bytes)) = some (some (.agg #[.int .i64 0, .int .i64 0, .int .i64 0]), 3, 24) := by kernel_rfl
end Go.Proofs.YtkkhjlomicokgaaGreatDoor

/- Walk of LevelsAt. -/
namespace Go.Proofs.YtkkhjlomicokgaaGreatDoor
open Go.RowKit
set_option linter.unusedVariables false
set_option linter.unusedSimpArgs false
end Go.Proofs.YtkkhjlomicokgaaGreatDoor

/- Walks of cmp.Compare at strings, cmp.Or, the closure that Tallies sorts by. -/
namespace Go.Proofs.YtkkhjlomicokgaaGreatDoor
open Go.RowKit
set_option linter.unusedVariables false
set_option linter.unusedSimpArgs false
/-- Strings, compared byte by byte. -/
def cmpS (a b : ByteArray) : Int := if Op.bytesLess a.toList b.toList then -1 else if a.toList == b.toList then 0 else 1
theorem isNaN_str (a : ByteArray) (w : World) : Calls Tryz.prog 64 #[.string a] w fun e w' => e = .returned (.bool false) ∧ w = w' := by
  go_enter Tryz.func64, Tryz.ntmps64
  go_wp2
  go_ret
  exact ⟨by simp, rfl⟩
/-- The first number that is not 0. -/
def orI (x y z : Int) : Int := if x ≠ 0 then x else if y ≠ 0 then y else z
end Go.Proofs.YtkkhjlomicokgaaGreatDoor

/- The closure that Tallies sorts by. -/
namespace Go.Proofs.YtkkhjlomicokgaaGreatDoor
open Go.RowKit
set_option linter.unusedVariables false
set_option linter.unusedSimpArgs false
structure Tl where
  key : ByteArray
  why : Int
  name : ByteArray
  many : Int
  deriving DecidableEq, Inhabited
def Tl.cs (x : Tl) : List Value := [.string x.key, .int .i64 x.why, .string x.name, .int .i64 x.many]
def cmpT (a b : Tl) : Int := orI (cmpS a.key b.key) (Lib.compareInt a.why b.why) (cmpS a.name b.name)
end Go.Proofs.YtkkhjlomicokgaaGreatDoor

/- The order of tallies: plain law. -/
namespace Go.Proofs.YtkkhjlomicokgaaGreatDoor
open Go.Sort
set_option linter.unusedVariables false
set_option linter.unusedSimpArgs false
theorem bl_irrefl : ∀ x : List UInt8, Op.bytesLess x x = false
  | [] => rfl
  | a :: x => by simp [Op.bytesLess, bl_irrefl x]
theorem bl_cons (a b : UInt8) (x y : List UInt8) : Op.bytesLess (a :: x) (b :: y) = true ↔ a.toNat < b.toNat ∨ (a = b ∧ Op.bytesLess x y = true) := by
  simp [Op.bytesLess, UInt8.lt_iff_toNat_lt]
theorem bl_tri : ∀ x y : List UInt8, ¬ Op.bytesLess x y = true → ¬ Op.bytesLess y x = true → x = y
  | [], [], _, _ => rfl
  | [], b :: y, h, _ => absurd rfl h
  | a :: x, [], _, h => absurd rfl h
  | a :: x, b :: y, h1, h2 => by
    rw [bl_cons] at h1 h2
    have e : a = b := UInt8.toNat_inj.1 (by
      have := fun h => h1 (.inl h)
      have := fun h => h2 (.inl h)
      omega)
    subst e
    rw [bl_tri x y (fun h => h1 (.inr ⟨rfl, h⟩)) (fun h => h2 (.inr ⟨rfl, h⟩))]
theorem bl_trans : ∀ x y z : List UInt8, Op.bytesLess x y = true → Op.bytesLess y z = true → Op.bytesLess x z = true
  | _, _, [], _, h => by cases ‹List UInt8› <;> simp [Op.bytesLess] at h
  | [], _, _ :: _, _, _ => rfl
  | a :: x, [], c :: z, h, _ => by simp [Op.bytesLess] at h
  | a :: x, b :: y, c :: z, h1, h2 => by
    rw [bl_cons] at h1 h2 ⊢
    rcases h1 with h1 | ⟨rfl, h1⟩
    · rcases h2 with h2 | ⟨rfl, h2⟩
      · exact .inl (by omega)
      · exact .inl h1
    · rcases h2 with h2 | ⟨rfl, h2⟩
      · exact .inl h2
      · exact .inr ⟨rfl, bl_trans x y z h1 h2⟩
/-- A comparison that is one: turned round it turns its sign; not more, twice, is not more. -/
structure CmpO {α : Type} (c : α → α → Int) : Prop where
  anti : ∀ x y, c x y < 0 ↔ 0 < c y x
  le : ∀ x y z, c x y ≤ 0 → c y z ≤ 0 → c x z ≤ 0
section
variable {α : Type} {c d : α → α → Int}
theorem CmpO.zero (h : CmpO c) {x y : α} : c x y = 0 ↔ c y x = 0 := by
  have h1 := h.anti x y
  have h2 := h.anti y x
  omega
theorem CmpO.lt (h : CmpO c) {x y z : α} (h1 : c x y < 0) (h2 : c y z ≤ 0) : c x z < 0 := by
  have a1 := h.anti x z
  have a2 := h.anti x y
  have a3 := h.anti z x
  rcases Int.lt_or_le (c x z) 0 with h3 | h3
  · exact h3
  · exfalso
    have h4 := h.le y z x h2 (by omega)
    omega
theorem CmpO.swo (h : CmpO c) : SWO fun x y => decide (c x y < 0) where
  irrefl x := by have := h.anti x x; exact decide_eq_false (by omega)
  trans x y z h1 h2 := by
    have h1 := of_decide_eq_true h1
    have h2 := of_decide_eq_true h2
    exact decide_eq_true (h.lt h1 (by omega))
  ntrans x y z h1 h2 := by
    have h1 := of_decide_eq_false h1
    have h2 := of_decide_eq_false h2
    refine decide_eq_false fun h3 => ?_
    have a1 := h.anti x y; have a2 := h.anti y z; have a3 := h.anti x z
    have a4 := h.anti y x; have a5 := h.anti z y
    have h4 := h.le z y x (by omega) (by omega)
    omega
theorem CmpO.lex (h : CmpO c) (g : CmpO d) : CmpO fun x y => if c x y ≠ 0 then c x y else d x y where
  anti x y := by
    have h1 := h.anti x y; have h2 := h.anti y x; have g1 := g.anti x y
    by_cases e : c x y = 0
    · rw [if_neg (by simp [e]), if_neg (by simp [h.zero.1 e])]; exact g1
    · have e2 : c y x ≠ 0 := fun e2 => e (h.zero.1 e2)
      rw [if_pos e, if_pos e2]; exact h1
  le x y z h1 h2 := by
    have hz : ∀ u v, (if c u v ≠ 0 then c u v else d u v) ≤ 0 → c u v ≤ 0 := fun u v hh => by
      by_cases e : c u v = 0
      · omega
      · rw [if_pos e] at hh; exact hh
    have k1 := hz _ _ h1
    have k2 := hz _ _ h2
    have k3 := h.le x y z k1 k2
    by_cases e : c x z = 0
    · have e1 : c x y = 0 := by
        rcases Int.lt_or_le (c x y) 0 with h3 | h3
        · have := h.lt h3 k2; omega
        · omega
      have e2 : c y z = 0 := by
        have a1 := h.anti x z; have a2 := h.anti z x
        have a3 := h.anti x y; have a4 := h.anti y x
        rcases Int.lt_or_le (c y z) 0 with h3 | h3
        · have := h.lt h3 (show c z x ≤ 0 by omega); omega
        · omega
      rw [if_neg (by simp [e1])] at h1
      rw [if_neg (by simp [e2])] at h2
      rw [if_neg (by simp [e])]
      exact g.le x y z h1 h2
    · rw [if_pos e]; exact k3
end
theorem cmpS_lt (a b : ByteArray) : cmpS a b < 0 ↔ Op.bytesLess a.toList b.toList = true := by
  unfold cmpS
  by_cases h : Op.bytesLess a.toList b.toList = true
  · rw [if_pos h]; simp [h]
  · rw [if_neg h]; simp only [h]; split <;> simp
theorem cmpS_gt (a b : ByteArray) : 0 < cmpS a b ↔ ¬ Op.bytesLess a.toList b.toList = true ∧ a.toList ≠ b.toList := by
  unfold cmpS
  by_cases h : Op.bytesLess a.toList b.toList = true
  · rw [if_pos h]; simp [h]
  · rw [if_neg h]
    by_cases e : a.toList = b.toList
    · rw [if_pos (by simpa using e)]; simp [e]
    · rw [if_neg (by simpa using e)]; simp [h, e]
theorem cmpS_zero {a b : ByteArray} (h : cmpS a b = 0) : a = b := by
  have h1 := cmpS_lt a b
  have h2 := cmpS_gt a b
  have h3 : a.toList = b.toList := Decidable.byContradiction fun h3 => by
    have := h2.2 ⟨fun h4 => by have := h1.2 h4; omega, h3⟩
    omega
  rw [ByteArray.toList_eq, ByteArray.toList_eq] at h3
  exact ByteArray.ext (Array.toList_inj.1 h3)
theorem cmpS_ord : CmpO cmpS where
  anti x y := by
    rw [cmpS_lt, cmpS_gt]
    constructor
    · intro h
      refine ⟨fun h2 => ?_, fun e => ?_⟩
      · have := bl_trans _ _ _ h h2
        rw [bl_irrefl] at this; cases this
      · rw [e, bl_irrefl] at h; cases h
    · rintro ⟨h1, h2⟩
      exact Decidable.byContradiction fun h3 => h2 (bl_tri _ _ h1 h3)
  le x y z h1 h2 := by
    refine Int.not_lt.1 fun h3 => ?_
    have a1 := mt (cmpS_gt x y).2 (by omega)
    have a2 := mt (cmpS_gt y z).2 (by omega)
    obtain ⟨b1, b2⟩ := (cmpS_gt x z).1 h3
    by_cases e1 : x.toList = y.toList
    · rw [← e1] at a2
      exact a2 ⟨b1, b2⟩
    · have c1 : Op.bytesLess x.toList y.toList = true := Decidable.byContradiction fun h => a1 ⟨h, e1⟩
      by_cases e2 : y.toList = z.toList
      · rw [e2] at c1; exact b1 c1
      · have c2 : Op.bytesLess y.toList z.toList = true := Decidable.byContradiction fun h => a2 ⟨h, e2⟩
        exact b1 (bl_trans _ _ _ c1 c2)
theorem cmpI_lt (x y : Int) : Lib.compareInt x y < 0 ↔ x < y := by
  unfold Lib.compareInt
  split
  · omega
  · split <;> omega
theorem cmpI_gt (x y : Int) : 0 < Lib.compareInt x y ↔ y < x := by
  unfold Lib.compareInt
  split
  · omega
  · split <;> omega
theorem cmpI_ord : CmpO Lib.compareInt where
  anti x y := by rw [cmpI_lt, cmpI_gt]
  le x y z h1 h2 := by
    have a1 := cmpI_gt x y; have a2 := cmpI_gt y z; have a3 := cmpI_gt x z
    omega
theorem CmpO.on {α β : Type} {c : β → β → Int} (h : CmpO c) (f : α → β) : CmpO fun x y => c (f x) (f y) := ⟨fun x y => h.anti _ _, fun x y z => h.le _ _ _⟩
theorem cmpT_ord : CmpO cmpT := (cmpS_ord.on Tl.key).lex ((cmpI_ord.on Tl.why).lex (cmpS_ord.on Tl.name))
/-- What a tally is told by. -/
def Tl.tag (x : Tl) : ByteArray × Int × ByteArray := (x.key, x.why, x.name)
theorem cmpT_zero {x y : Tl} (h : cmpT x y = 0) : x.tag = y.tag := by
  unfold cmpT orI at h
  have h1 : cmpS x.key y.key = 0 := Decidable.byContradiction fun e => by rw [if_pos e] at h; exact e h
  rw [if_neg (by simp [h1])] at h
  have h2 : Lib.compareInt x.why y.why = 0 := Decidable.byContradiction fun e => by rw [if_pos e] at h; exact e h
  rw [if_neg (by simp [h2])] at h
  have h3 : x.why = y.why := by
    have a1 := cmpI_lt x.why y.why; have a2 := cmpI_gt x.why y.why
    omega
  unfold Tl.tag
  rw [cmpS_zero h1, h3, cmpS_zero h]
/-- Rows that are sorted, and hold the same, are one, where no two elements are told alike. -/
theorem sorted_one {α β : Type} {c : α → α → Int} (h : CmpO c) (tag : α → β) (hz : ∀ x y, c x y = 0 → tag x = tag y) : ∀ (l m : List α), l.Perm m → (l.map tag).Nodup → l.Pairwise (fun x y => ¬ c y x < 0) → m.Pairwise (fun x y => ¬ c y x < 0) → l = m
  | [], m, hp, _, _, _ => (List.nil_perm.1 hp).symm
  | a :: l, [], hp, _, _, _ => absurd hp.length_eq (by simp)
  | a :: l, b :: m, hp, hn, hl, hm => by
    rw [List.pairwise_cons] at hl hm
    rw [List.map_cons, List.nodup_cons] at hn
    have hb : b ∈ a :: l := hp.symm.subset List.mem_cons_self
    have ha : a ∈ b :: m := hp.subset List.mem_cons_self
    have e : a = b := by
      rcases List.mem_cons.1 hb with e | hb
      · exact e.symm
      · rcases List.mem_cons.1 ha with e | ha
        · exact e
        · have h1 := hl.1 b hb
          have h2 := hm.1 a ha
          have h3 := h.anti a b
          have h3b := h.anti b a
          have h4 := hz a b (by omega)
          exact absurd (h4 ▸ List.mem_map.2 ⟨b, hb, rfl⟩) hn.1
    subst e
    rw [sorted_one h tag hz l m (List.Perm.cons_inv hp) hn.2 hl.2 hm.2]
end Go.Proofs.YtkkhjlomicokgaaGreatDoor

/- The map of tallies: its keys are structs. -/
namespace Go.Proofs.YtkkhjlomicokgaaGreatDoor
open Go.RowKit Go.Maps
set_option linter.unusedVariables false
set_option linter.unusedSimpArgs false
theorem laidOutG : laidOutB Tryz.prog = true := by kernel_rfl
theorem row_rs : (98 : TypeId) < Tryz.prog.types.size := of_decide_eq_true (by kernel_rfl)
theorem wide_rs : (match Tryz.prog.underlying 98 with | some (.array _ _) | some (.struct _) => true | _ => false) = true := by rw [Tryz.underlying98]
set_option maxRecDepth 100000 in
theorem law_rs : Keyed Tryz.prog 98 := Keyed.of_law (deep_law_laid laidOutG (m := 2) (by omega) row_rs (by kernel_rfl) wide_rs)
/-- The key of a tally. -/
def rsV (k : ByteArray) (y : Int) (n : ByteArray) : Value := .agg #[.string k, .int .i64 y, .string n]
def rsL (k : ByteArray) (y : Int) (n : ByteArray) : Lit := .string (keyBytes [.string k.data.toList, .int .i64 y, .string n.data.toList])
theorem deep_rs : Tryz.prog.keyTypeAt (Tryz.prog.types.size + 1) 98 = true := by kernel_rfl
theorem cells_rs : Tryz.prog.cellsOf 98 = 3 := by kernel_rfl
theorem lits_str {s : ByteArray} (h : s.size ≤ maxLen) (M : Nat) : Tryz.prog.keyLits (M + 1) 9 [.string s] = some [.string s.data.toList] := by
  unfold Program.keyLits; rw [Tryz.underlying9]; simp only; rw [if_pos h]
theorem lits_int {y : Int} (h : (Lit.int .i64 y).wf = true) (M : Nat) : Tryz.prog.keyLits (M + 1) 3 [.int .i64 y] = some [.int .i64 y] := by
  unfold Program.keyLits; rw [Tryz.underlying3]; simp only; rw [if_pos ⟨trivial, h⟩]
set_option maxRecDepth 100000 in
theorem lits_rs {k n : ByteArray} {y : Int} (hk : k.size ≤ maxLen) (hn : n.size ≤ maxLen) (hy : (Lit.int .i64 y).wf = true) (M : Nat) : Tryz.prog.keyLits (M + 2) 98 [.string k, .int .i64 y, .string n] = some [.string k.data.toList, .int .i64 y, .string n.data.toList] := by
  have c1 : Tryz.prog.cellsOf 9 = 1 := by kernel_rfl
  have c2 : Tryz.prog.cellsOf 3 = 1 := by kernel_rfl
  unfold Program.keyLits
  rw [Tryz.underlying98]
  simp only
  rw [if_pos ⟨by rw [cells_rs]; rfl, by kernel_rfl⟩]
  simp only [List.mapM_cons, List.mapM_nil, c1, c2]
  simp [lits_str hk, lits_str hn, lits_int hy]
theorem size_rs : ∃ M, Tryz.prog.types.size + 1 = M + 2 := by
  have h : 1 ≤ Tryz.prog.types.size := of_decide_eq_true (by kernel_rfl)
  generalize Tryz.prog.types.size = s at h
  exact ⟨s - 1, by omega⟩
theorem keyT_rs : Tryz.prog.keyType 98 = true := by kernel_rfl
theorem key_rs {k n : ByteArray} {y : Int} (hk : k.size ≤ maxLen) (hn : n.size ≤ maxLen) (hy : (Lit.int .i64 y).wf = true) : keyOf Tryz.prog 98 (rsV k y n) = some (rsL k y n) := by
  have hF : (rsV k y n).formed Tryz.prog 98 = true := by simp [rsV, Value.formed, Tryz.underlying98, cells_rs]
  obtain ⟨M, hM⟩ := size_rs
  unfold keyOf
  rw [Tryz.underlying98]
  simp only
  rw [if_pos (by rw [keyT_rs, hF]; rfl), hM]
  show Option.map _ (Tryz.prog.keyLits (M + 2) 98 [.string k, .int .i64 y, .string n]) = _
  rw [lits_rs hk hn hy]
  rfl
theorem rs_inj {k n k' n' : ByteArray} {y y' : Int} (h1 : keyOf Tryz.prog 98 (rsV k y n) = some (rsL k y n)) (h2 : keyOf Tryz.prog 98 (rsV k' y' n') = some (rsL k' y' n')) (e : rsL k y n = rsL k' y' n') : k = k' ∧ y = y' ∧ n = n' := by
  rw [← e] at h2
  have := law_rs.inj h1 h2
  simpa [rsV] using this
end Go.Proofs.YtkkhjlomicokgaaGreatDoor

/- Tallies: one is counted; what the map of them reads as. Plain law. -/
namespace Go.Proofs.YtkkhjlomicokgaaGreatDoor
open Go.Maps
set_option linter.unusedVariables false
set_option linter.unusedSimpArgs false
abbrev Tag := ByteArray × Int × ByteArray
def mkT (t : Tag) (m : Int) : Tl := ⟨t.1, t.2.1, t.2.2, m⟩
def tagL (t : Tag) : Lit := rsL t.1 t.2.1 t.2.2
/-- One more of a kind. -/
def incT (t : Tag) : List Tl → List Tl
  | [] => [mkT t 1]
  | x :: l => if x.tag = t then mkT t (x.many + 1) :: l else x :: incT t l
/-- How many of a kind. -/
def getT (t : Tag) : List Tl → Int
  | [] => 0
  | x :: l => if x.tag = t then x.many else getT t l
theorem tag_mk (t : Tag) (m : Int) : (mkT t m).tag = t := rfl
theorem incT_tags (t : Tag) : ∀ l : List Tl, (t ∈ l.map Tl.tag ∧ (incT t l).map Tl.tag = l.map Tl.tag) ∨ (¬ t ∈ l.map Tl.tag ∧ (incT t l).map Tl.tag = l.map Tl.tag ++ [t])
  | [] => .inr ⟨by simp, rfl⟩
  | x :: l => by
    unfold incT
    by_cases h : x.tag = t
    · rw [if_pos h]
      refine .inl ⟨by rw [List.map_cons, h]; exact List.mem_cons_self, ?_⟩
      rw [List.map_cons, tag_mk, List.map_cons, h]
    · rw [if_neg h]
      have h' : ¬ t = x.tag := fun e => h e.symm
      rcases incT_tags t l with ⟨h1, h2⟩ | ⟨h1, h2⟩
      · exact .inl ⟨by rw [List.map_cons]; exact List.mem_cons_of_mem _ h1, by rw [List.map_cons, List.map_cons, h2]⟩
      · exact .inr ⟨by rw [List.map_cons, List.mem_cons]; exact not_or.2 ⟨h', h1⟩, by rw [List.map_cons, List.map_cons, h2]; rfl⟩
theorem incT_nodup {t : Tag} {l : List Tl} (h : (l.map Tl.tag).Nodup) : ((incT t l).map Tl.tag).Nodup := by
  rcases incT_tags t l with ⟨h1, h2⟩ | ⟨hm, h2⟩
  · rw [h2]; exact h
  · rw [h2, List.nodup_append]
    refine ⟨h, by simp, fun a ha b hb => ?_⟩
    simp only [List.mem_singleton] at hb
    subst hb
    exact fun e => hm (e ▸ ha)
theorem getT_inc (t u : Tag) : ∀ l : List Tl, getT u (incT t l) = if u = t then getT t l + 1 else getT u l
  | [] => by
    unfold incT getT
    rw [tag_mk]
    by_cases h : u = t
    · rw [if_pos h.symm, if_pos h]; rfl
    · rw [if_neg (fun e => h e.symm), if_neg h]; rfl
  | x :: l => by
    unfold incT
    by_cases hx : x.tag = t
    · rw [if_pos hx]
      by_cases h : u = t
      · subst h; rw [if_pos rfl]; simp only [getT, tag_mk, if_pos hx, if_true]; rfl
      · rw [if_neg h]
        have h1 : ¬ t = u := fun e => h e.symm
        have h2 : ¬ x.tag = u := fun e => h1 (hx.symm.trans e)
        show (if t = u then _ else getT u l) = (if x.tag = u then _ else getT u l)
        rw [if_neg h1, if_neg h2]
    · rw [if_neg hx]
      have ih := getT_inc t u l
      by_cases h : u = t
      · subst h
        rw [if_pos rfl] at ih ⊢
        simp only [getT, if_neg hx]
        exact ih
      · rw [if_neg h] at ih ⊢
        unfold getT
        split
        · rfl
        · exact ih
theorem getT_mem {x : Tl} : ∀ {l : List Tl}, x ∈ l → (l.map Tl.tag).Nodup → getT x.tag l = x.many
  | y :: l, hx, hn => by
    rw [List.map_cons, List.nodup_cons] at hn
    unfold getT
    rcases List.mem_cons.1 hx with e | hx
    · rw [e]; exact if_pos rfl
    · have hne : ¬ y.tag = x.tag := fun e => hn.1 (by rw [e]; exact List.mem_map.2 ⟨x, hx, rfl⟩)
      rw [if_neg hne]
      exact getT_mem hx hn.2
theorem getT_none {t : Tag} : ∀ {l : List Tl}, ¬ t ∈ l.map Tl.tag → getT t l = 0
  | [], _ => rfl
  | x :: l, h => by
    rw [List.map_cons, List.mem_cons] at h
    unfold getT
    rw [if_neg (fun e => h (.inl e.symm)), getT_none (fun hm => h (.inr hm))]
/-- A tag that can be a key. -/
structure TagOk (t : Tag) : Prop where
  k : t.1.size ≤ maxLen
  n : t.2.2.size ≤ maxLen
  y : (Lit.int .i64 t.2.1).wf = true
theorem tagL_inj {t u : Tag} (ht : TagOk t) (hu : TagOk u) (h : tagL t = tagL u) : t = u := by
  obtain ⟨h1, h2, h3⟩ := rs_inj (key_rs ht.k ht.n ht.y) (key_rs hu.k hu.n hu.y) h
  obtain ⟨a, b, c⟩ := t
  obtain ⟨a', b', c'⟩ := u
  simp at h1 h2 h3
  rw [h1, h2, h3]
theorem tagL_key {t : Tag} (ht : TagOk t) : WideAt.IsKeyLit (tagL t) := law_rs.key (key_rs ht.k ht.n ht.y)
/-- The map reads as the tallies. -/
structure MapT (D : DataW Unit) (l : List Tl) : Prop where
  map : IsMap D
  at_ : ∀ t, TagOk t → D.atKey (tagL t) (.lit (.int .i64 0)) = .lit (.int .i64 (getT t l))
  has : ∀ t, TagOk t → (Maps.has D (tagL t) = true ↔ t ∈ l.map Tl.tag)
  all : ∀ kl, Maps.has D kl = true → ∃ t, TagOk t ∧ kl = tagL t
theorem MapT.empty : MapT (.map []) [] :=
  ⟨isMap_empty, fun t _ => rfl, fun t _ => by simp [Maps.has], fun kl h => by simp [Maps.has] at h⟩
theorem MapT.inc {D : DataW Unit} {l : List Tl} (h : MapT D l) {t : Tag} (ht : TagOk t) {v : Int} (hv : v = getT t l + 1) : MapT (D.put (tagL t) (.lit (.int .i64 v))) (incT t l) := by
  subst hv
  have hk := tagL_key ht
  refine ⟨h.map.put _ _, fun u hu => ?_, fun u hu => ?_, fun kl hkl => ?_⟩
  · rw [getT_inc]
    by_cases e : u = t
    · subst e; rw [if_pos rfl, atKey_put_same h.map hk]
    · rw [if_neg e, atKey_put_other (fun e2 => e (tagL_inj hu ht e2))]; exact h.at_ u hu
  · have hm : u ∈ (incT t l).map Tl.tag ↔ u = t ∨ u ∈ l.map Tl.tag := by
      rcases incT_tags t l with ⟨h1, h2⟩ | ⟨h1, h2⟩
      · rw [h2]
        exact ⟨.inr, fun hh => hh.elim (fun e => e ▸ h1) id⟩
      · rw [h2, List.mem_append, List.mem_singleton]
        exact ⟨fun hh => hh.elim .inr .inl, fun hh => hh.elim .inr .inl⟩
    rw [hm]
    by_cases e : u = t
    · subst e
      rw [has_put_same h.map hk]
      exact ⟨fun _ => .inl rfl, fun _ => rfl⟩
    · rw [has_put_other (fun e2 => e (tagL_inj hu ht e2)), h.has u hu]
      exact ⟨.inr, fun hh => hh.resolve_left e⟩
  · by_cases e : kl = tagL t
    · exact ⟨t, ht, e⟩
    · rw [has_put_other e] at hkl
      exact h.all kl hkl
end Go.Proofs.YtkkhjlomicokgaaGreatDoor

/- Tallies in their order: one list. -/
namespace Go.Proofs.YtkkhjlomicokgaaGreatDoor
set_option linter.unusedVariables false
def srtT (l : List Tl) : List Tl := l.mergeSort fun x y => decide (cmpT x y ≤ 0)
theorem srtT_perm (l : List Tl) : (srtT l).Perm l := List.mergeSort_perm _ _
theorem srtT_sorted (l : List Tl) : (srtT l).Pairwise fun x y => ¬ cmpT y x < 0 := by
  have h := cmpT_ord
  have h1 : (srtT l).Pairwise fun x y => decide (cmpT x y ≤ 0) = true :=
    List.pairwise_mergeSort (fun a b c h1 h2 => decide_eq_true (h.le a b c (of_decide_eq_true h1) (of_decide_eq_true h2))) (fun a b => by
      have a1 := h.anti a b; have a2 := h.anti b a
      by_cases e : cmpT a b ≤ 0
      · simp [e]
      · have : cmpT b a ≤ 0 := by omega
        simp [this]) l
  refine h1.imp fun {x y} hxy => ?_
  have := of_decide_eq_true hxy
  have := h.anti y x
  omega
theorem srtT_of {l m : List Tl} (hp : m.Perm l) (hn : (l.map Tl.tag).Nodup) (hs : m.Pairwise fun x y => ¬ cmpT y x < 0) : m = srtT l := by
  have hp2 : m.Perm (srtT l) := hp.trans (srtT_perm l).symm
  refine sorted_one cmpT_ord Tl.tag (fun x y h => cmpT_zero h) m (srtT l) hp2 ?_ hs (srtT_sorted l)
  exact (hp.map Tl.tag).nodup_iff.2 hn
end Go.Proofs.YtkkhjlomicokgaaGreatDoor

/- A map's tallies, taken out one by one. Plain law. -/
namespace Go.Proofs.YtkkhjlomicokgaaGreatDoor
open Go.Maps
set_option linter.unusedVariables false
set_option linter.unusedSimpArgs false
theorem nodup_of_tags {l : List Tl} (h : (l.map Tl.tag).Nodup) : l.Nodup := (List.pairwise_map.1 h).imp fun hne e => hne (congrArg Tl.tag e)
/-- What has come of l is m; 'left' is what is still to come. -/
structure Got (l m : List Tl) (left : Lit → Bool) : Prop where
  nd : (m.map Tl.tag).Nodup
  sub : ∀ x ∈ m, x ∈ l
  lf : ∀ t, TagOk t → (left (tagL t) = true ↔ t ∈ l.map Tl.tag ∧ ¬ t ∈ m.map Tl.tag)
  all : ∀ kl, left kl = true → ∃ t, TagOk t ∧ kl = tagL t
theorem Got.start {D : DataW Unit} {l : List Tl} (h : MapT D l) : Got l [] (Maps.has D) :=
  ⟨by simp, by simp, fun t ht => by rw [h.has t ht]; simp, h.all⟩
theorem Got.step {l m : List Tl} {left : Lit → Bool} (h : Got l m left) {t : Tag} (ht : TagOk t) (hl : left (tagL t) = true) (hn : (l.map Tl.tag).Nodup) : Got l (m ++ [mkT t (getT t l)]) (fun z => left z && !z.sameKey (tagL t)) := by
  have hm := (h.lf t ht).1 hl
  refine ⟨?_, ?_, ?_, ?_⟩
  · rw [List.map_append, List.nodup_append]
    refine ⟨h.nd, by simp, fun a ha b hb => ?_⟩
    simp [tag_mk] at hb
    subst hb
    exact fun e => hm.2 (e ▸ ha)
  · intro x hx
    rcases List.mem_append.1 hx with hx | hx
    · exact h.sub x hx
    · simp at hx
      obtain ⟨y, hy, hyt⟩ := List.mem_map.1 hm.1
      have h1 := getT_mem hy hn
      subst hyt
      rw [hx, h1]
      exact hy
  · intro u hu
    rw [List.map_append, List.mem_append, Bool.and_eq_true, h.lf u hu]
    by_cases e : u = t
    · subst e
      have : (tagL u).sameKey (tagL u) = true := WideAt.sameKey_self (tagL_key hu)
      simp [this, tag_mk]
    · have : (tagL u).sameKey (tagL t) = false := by
        cases hs : (tagL u).sameKey (tagL t)
        · rfl
        · exact absurd (tagL_inj hu ht (WideAt.sameKey_eq hs)) e
      simp [this, tag_mk, e]
  · intro kl hkl
    rw [Bool.and_eq_true] at hkl
    exact h.all kl hkl.1
theorem Got.done {l m : List Tl} {left : Lit → Bool} (h : Got l m left) (hd : ∀ kl, left kl = false) (hn : (l.map Tl.tag).Nodup) (hok : ∀ x ∈ l, TagOk x.tag) : m.Perm l := by
  have hm : m.Nodup := nodup_of_tags h.nd
  have hl : l.Nodup := nodup_of_tags hn
  rw [List.perm_ext_iff_of_nodup hm hl]
  intro x
  refine ⟨h.sub x, fun hx => ?_⟩
  by_cases hc : x.tag ∈ m.map Tl.tag
  · obtain ⟨y, hy, hyt⟩ := List.mem_map.1 hc
    have h1 := getT_mem (h.sub y hy) hn
    have h2 := getT_mem hx hn
    rw [hyt, h2] at h1
    have : y = x := by
      cases x; cases y
      simp [Tl.tag] at hyt h1
      obtain ⟨a, b, c⟩ := hyt
      subst a b c h1
      rfl
    exact this ▸ hy
  · have := (h.lf x.tag (hok x hx)).2 ⟨List.mem_map.2 ⟨x, hx, rfl⟩, hc⟩
    rw [hd] at this
    cases this
theorem Got.room {l m : List Tl} {left : Lit → Bool} (h : Got l m left) : m.length ≤ l.length :=
  (nodup_of_tags h.nd).length_le_of_subset h.sub
theorem srtT_perm_eq {l m : List Tl} (hp : m.Perm l) (hn : (l.map Tl.tag).Nodup) : srtT m = srtT l :=
  srtT_of ((srtT_perm m).trans hp) hn (srtT_sorted m)
end Go.Proofs.YtkkhjlomicokgaaGreatDoor
