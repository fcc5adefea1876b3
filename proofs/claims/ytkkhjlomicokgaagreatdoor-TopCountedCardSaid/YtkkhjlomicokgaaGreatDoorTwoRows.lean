/- A box of one's own with two rows of two types, carried through allocations and appends. No program. -/
import Derived.Test.YtkkhjlomicokgaaGreatDoorAlCnt
namespace Go.Proofs.YtkkhjlomicokgaaGreatDoor.al
open Go.RowKit
set_option linter.unusedVariables false
structure TwoR (B : Nat) (P : Nat → Prop) (w0 : World) (rb : Nat) (cells : Array Value) (T : TypeId) (b1 : Nat) (e1 : TypeId) (s1 : Nat) (v1 : Value) (n1 : Nat) (xs1 : List Value) (b2 : Nat) (e2 : TypeId) (s2 : Nat) (v2 : Value) (n2 : Nat) (xs2 : List Value) (w : World) : Prop where
  box : w.heap[rb]? = some (.cells cells T (0, 0))
  r1 : w.ownsRow b1 e1 s1 v1 n1 xs1
  r2 : w.ownsRow b2 e2 s2 v2 n2 xs2
  kp : Keep B P w0 w
section
variable {B : Nat} {P : Nat → Prop} {w0 : World} {rb : Nat} {cells : Array Value} {T : TypeId} {b1 : Nat} {e1 : TypeId} {s1 : Nat} {v1 : Value} {n1 : Nat} {xs1 : List Value} {b2 : Nat} {e2 : TypeId} {s2 : Nat} {v2 : Value} {n2 : Nat} {xs2 : List Value} {w w' : World}
theorem own_two (h1 : w.ownsRow b1 e1 s1 v1 n1 xs1) (h2 : w.ownsRow b2 e2 s2 v2 n2 xs2) (hne : e1 ≠ e2) : v2.ownBlock = none ∨ v2.ownBlock ≠ v1.ownBlock := by
  rcases h2.2 with ⟨rfl, _⟩ | ⟨g, cap, cur, rfl, _, hh, _⟩
  · exact .inl rfl
  · right
    intro e
    exact own_other' h1 hh hne e.symm
theorem TwoR.alloc (h : TwoR B P w0 rb cells T b1 e1 s1 v1 n1 xs1 b2 e2 s2 v2 n2 xs2 w) (hB : B ≤ w0.heap.size) (o : Obj) : TwoR B P w0 rb cells T b1 e1 s1 v1 n1 xs1 b2 e2 s2 v2 n2 xs2 (w.alloc o) :=
  have hb : Below w.heap.size w (w.alloc o) := (Below.refl _ _).alloc (Nat.le_refl _) o
  ⟨block_below h.box hb, h.r1.alloc o, h.r2.alloc o, h.kp.trans (Keep.of_below hb (Nat.le_trans hB h.kp.be.size))⟩
theorem TwoR.drew (h : TwoR B P w0 rb cells T b1 e1 s1 v1 n1 xs1 b2 e2 s2 v2 n2 xs2 w) : TwoR B P w0 rb cells T b1 e1 s1 v1 n1 xs1 b2 e2 s2 v2 n2 xs2 w.drew :=
  ⟨h.box, h.r1.drew, h.r2.drew, ⟨h.kp.be.drew, h.kp.keep⟩⟩
theorem Keep.grow {r : Option Nat} (hg : w.grownBy w' r) (hB : B ≤ w.heap.size) (hr : ∀ k, r = some k → B ≤ k ∧ P k) : Keep B P w w' :=
  ⟨(Below.refl _ _).grown hg hB (fun k hk => (hr k hk).1), fun k ob e ne => (hg.block k (lt_of_block e) (fun e => ne (hr k e.symm).2)).trans e⟩
theorem TwoR.grow1 {v' : Value} {n' : Nat} {xs' : List Value} (h : TwoR B P w0 rb cells T b1 e1 s1 v1 n1 xs1 b2 e2 s2 v2 n2 xs2 w) (hB : B ≤ w0.heap.size) (hB1 : B ≤ b1) (hne : e1 ≠ e2) (hT : e1 ≠ T) (hP : ∀ k, v1.ownBlock = some k → P k) (hg : w.grownBy w' v1.ownBlock) (ho : w'.ownsRow b1 e1 s1 v' n' xs') : TwoR B P w0 rb cells T b1 e1 s1 v' n' xs' b2 e2 s2 v2 n2 xs2 w' :=
  ⟨(hg.block rb (lt_of_block h.box) (fun e => own_other' h.r1 h.box hT e.symm)).trans h.box, ho, h.r2.kept hg (own_two h.r1 h.r2 hne), h.kp.trans (Keep.grow hg (Nat.le_trans hB h.kp.be.size) (fun k hk => ⟨Nat.le_trans hB1 (h.r1.lt k hk).1, hP k hk⟩))⟩
theorem TwoR.grow2 {v' : Value} {n' : Nat} {xs' : List Value} (h : TwoR B P w0 rb cells T b1 e1 s1 v1 n1 xs1 b2 e2 s2 v2 n2 xs2 w) (hB : B ≤ w0.heap.size) (hB2 : B ≤ b2) (hne : e2 ≠ e1) (hT : e2 ≠ T) (hP : ∀ k, v2.ownBlock = some k → P k) (hg : w.grownBy w' v2.ownBlock) (ho : w'.ownsRow b2 e2 s2 v' n' xs') : TwoR B P w0 rb cells T b1 e1 s1 v1 n1 xs1 b2 e2 s2 v' n' xs' w' :=
  ⟨(hg.block rb (lt_of_block h.box) (fun e => own_other' h.r2 h.box hT e.symm)).trans h.box, h.r1.kept hg (own_two h.r2 h.r1 hne), ho, h.kp.trans (Keep.grow hg (Nat.le_trans hB h.kp.be.size) (fun k hk => ⟨Nat.le_trans hB2 (h.r2.lt k hk).1, hP k hk⟩))⟩
theorem TwoR.set (h : TwoR B P w0 rb cells T b1 e1 s1 v1 n1 xs1 b2 e2 s2 v2 n2 xs2 w) (hB : B ≤ rb) (hP : P rb) (hT1 : e1 ≠ T) (hT2 : e2 ≠ T) (i : Nat) (u : Value) : TwoR B P w0 rb (cells.setIfInBounds i u) T b1 e1 s1 v1 n1 xs1 b2 e2 s2 v2 n2 xs2 (w.setCell ⟨rb, i, none⟩ u) :=
  ⟨block_set h.box u, ownsRow_setCell_other h.r1 (a := ⟨rb, i, none⟩) (own_other' h.r1 h.box hT1) _, ownsRow_setCell_other h.r2 (a := ⟨rb, i, none⟩) (own_other' h.r2 h.box hT2) _, h.kp.trans (Keep.set w i u hB hP)⟩
/-- A block that is no row's stays behind an append. -/
theorem grown_block {r : Option Nat} {b : Nat} {o : Obj} (hg : w.grownBy w' r) (h : w.heap[b]? = some o) (hne : r ≠ some b) : w'.heap[b]? = some o :=
  (hg.block b (lt_of_block h) (fun e => hne e.symm)).trans h
end
end Go.Proofs.YtkkhjlomicokgaaGreatDoor.al