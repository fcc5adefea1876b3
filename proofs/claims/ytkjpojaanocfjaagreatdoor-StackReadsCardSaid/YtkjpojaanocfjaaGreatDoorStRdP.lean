/- The other part of a frame's line: plain law. -/
import Derived.Test.YtkjpojaanocfjaaGreatDoorStRdB
namespace Go.Proofs.YtkjpojaanocfjaaGreatDoor
open Go.RowKit
set_option linter.unusedVariables false
set_option linter.unusedSimpArgs false
def preB (x : ByteArray) (c : UInt8) : Bool := Lib.hasPrefix x.data.toList [c]
def restB (x : ByteArray) : ByteArray := x.extract 1 x.size
def sfxK (x : ByteArray) : Bool := Lib.hasSuffix x.data.toList [41]
def sfxS (x : ByteArray) : ByteArray := ⟨(Lib.trimSuffix x.data.toList [41]).toArray⟩
/-- "(file:line)". -/
def fileK (x : ByteArray) : Bool := sfxK (restB x) && (!emptyB (cutL (sfxS (restB x)) 58) && (wordB (cutL (sfxS (restB x)) 58) && (!cutK (sfxS (restB x)) 58 || (numK 10 7 (cutR (sfxS (restB x)) 58) && !(numO 10 7 (cutR (sfxS (restB x)) 58) == 0)))))
def fileF (x : ByteArray) : ByteArray := cutL (sfxS (restB x)) 58
def fileL (x : ByteArray) : Int := if cutK (sfxS (restB x)) 58 then numO 10 7 (cutR (sfxS (restB x)) 58) else 0
abbrev Plc := ByteArray × Int × Int × Bool
def pl3 (f : ByteArray) (l a : Int) : List ByteArray → Option Plc
  | [] => some (f, l, a, false)
  | x :: r => if x = ⟨#[42]⟩ then (if r = [] then some (f, l, a, true) else none) else none
def pl2 (f : ByteArray) (l : Int) : List ByteArray → Option Plc
  | [] => pl3 f l (-1) []
  | x :: r => if preB x 64 then (if numK 16 12 (restB x) then pl3 f l (numO 16 12 (restB x)) r else none) else pl3 f l (-1) (x :: r)
def plR : List ByteArray → Option Plc
  | [] => pl2 ⟨#[]⟩ 0 []
  | x :: r => if preB x 40 then (if fileK x then pl2 (fileF x) (fileL x) r else none) else pl2 ⟨#[]⟩ 0 (x :: r)
/-- What readPlace has in memory: the frame's box, the words that are left. -/
structure PlI (b : Nat) (A : Option Addr) (n : Nat) (ws : List ByteArray) (M F f : ByteArray) (l a : Int) (o : Bool) (w W : World) : Prop where
  box : W.heap[b]? = some (.cells #[.string M, .string F, .string f, .int .i64 l, .int .i64 a, .bool o] 43 (0, 0))
  sl : Sl W W.heap.size cs 1 A n ws
  apart : ∀ g o', A = some ⟨g, o', none⟩ → g ≠ b
  but : ButAt b w W
  mx : Mx W
section
variable {b n : Nat} {A : Option Addr} {ws : List ByteArray} {M F f : ByteArray} {l a : Int} {o : Bool} {w W W' : World}
theorem sl_setB {B : Nat} (h : Sl W B cs 1 A n ws) (ha : ∀ g o', A = some ⟨g, o', none⟩ → g ≠ b) (i : Nat) (u : Value) : Sl (W.setCell ⟨b, i, none⟩ u) B cs 1 A n ws := by
  refine ⟨h.len, fun hn => ?_⟩
  obtain ⟨g, o', e, hlt, hc⟩ := h.cells hn
  refine ⟨g, o', e, hlt, fun k x hx j v hv => ?_⟩
  rw [World.cell?_setCell_other _ _ _ _ (fun e2 => ha g o' e (by simpa using congrArg Addr.block e2.symm))]
  exact hc k x hx j v hv
theorem Mx.set (h : Mx W) (hb : 0 ≠ b) (i : Nat) (u : Value) : Mx (W.setCell ⟨b, i, none⟩ u) := by
  obtain ⟨m, h⟩ := h
  exact ⟨m, (World.cell?_setCell_other _ _ _ _ (fun e => hb (by simpa using (congrArg Addr.block e).symm))).trans h⟩
theorem PlI.below (h : PlI b A n ws M F f l a o w W) (hb : Below W.heap.size W W') (hlt : b < W.heap.size) : PlI b A n ws M F f l a o w W' :=
  ⟨block_below h.box hb, h.sl.up hb, h.apart, h.but.trans (ButAt.of_below hb (by omega)), h.mx.up hb (Nat.le_refl _)⟩
theorem PlI.lt (h : PlI b A n ws M F f l a o w W) : b < W.heap.size := lt_of_block h.box
theorem PlI.set (h : PlI b A n ws M F f l a o w W) (hg : 0 ≠ b) (i : Nat) (u : Value) {f' : ByteArray} {l' a' : Int} {o' : Bool}
    (e : (#[.string M, .string F, .string f, .int .i64 l, .int .i64 a, .bool o] : Array Value).setIfInBounds i u = #[.string M, .string F, .string f', .int .i64 l', .int .i64 a', .bool o']) : PlI b A n ws M F f' l' a' o' w (W.setCell ⟨b, i, none⟩ u) :=
  ⟨(block_set h.box (i := i) u).trans (by rw [e]), by have := sl_setB h.sl h.apart i u; simpa using this, h.apart, h.but.trans (ButAt.set W i u), h.mx.set hg i u⟩
theorem PlI.drop {bb oo : Nat} {x : ByteArray} (h : PlI b (some ⟨bb, oo, none⟩) (n + 1) (x :: ws) M F f l a o w W) : PlI b (some ⟨bb, oo + 1, none⟩) n ws M F f l a o w W := by
  refine ⟨h.box, ?_, fun g o' e => h.apart g oo (by simp at e ⊢; exact e.1), h.but, h.mx⟩
  have := h.sl.drop (i := 1) (by omega)
  simpa using this
end
end Go.Proofs.YtkjpojaanocfjaaGreatDoor
