/- The lines of a trace, as bytes. No program. -/
import Derived.Test.YtncpeokniffafaaGreatDoorStCulp
import Derived.Lib.ItoaNum
namespace Go.Proofs.YtncpeokniffafaaGreatDoor
/-- A digit of a base up to 16. -/
def hexc (u : Nat) : UInt8 := if u < 10 then UInt8.ofNat (48 + u) else UInt8.ofNat (87 + u)
/-- The digits of a number, the first ahead. -/
def digs (b u : Nat) : List UInt8 := if _h : u < b ∨ b < 2 then [hexc u] else digs b (u / b) ++ [hexc (u % b)]
termination_by u
decreasing_by exact Nat.div_lt_self (by omega) (by omega)
theorem digs_small {b u : Nat} (h : u < b) : digs b u = [hexc u] := by rw [digs, dif_pos (.inl h)]
theorem digs_big {b u : Nat} (h : b ≤ u) (h2 : 2 ≤ b) : digs b u = digs b (u / b) ++ [hexc (u % b)] := by rw [digs, dif_neg (by omega)]
theorem digs_dec (u : Nat) : Lib.decDigits u = digs 10 u := by
  induction u using Nat.strongRecOn with
  | ind u ih =>
    rw [Lib.decDigits]
    by_cases h : u < 10
    · rw [dif_pos h, digs_small h, hexc, if_pos h]
    · rw [dif_neg h, digs_big (by omega) (by decide), ih (u / 10) (by omega), hexc, if_pos (by omega)]
theorem digs_len (b : Nat) (hb : 2 ≤ b) : ∀ (k u : Nat), u < b ^ k → 1 ≤ k → (digs b u).length ≤ k
  | 0, u, _, h => by omega
  | k + 1, u, h, _ => by
    by_cases hu : u < b
    · rw [digs_small hu]; simp
    · rw [digs_big (by omega) hb, List.length_append, List.length_singleton]
      cases k with
      | zero => simp at h; omega
      | succ k =>
        have h2 : u / b < b ^ (k + 1) := by rw [Nat.div_lt_iff_lt_mul (by omega)]; rw [Nat.pow_succ] at h; exact h
        have := digs_len b hb (k + 1) (u / b) h2 (by omega)
        omega
/-- A number that is not negative, in digits. -/
def toldL (n : Int) : List UInt8 := digs 10 n.toNat
theorem itoa_told {n : Int} (h : 0 ≤ n) : Lib.itoa n = toldL n := by rw [Lib.itoa, if_neg (by omega), digs_dec]; rfl
/-- A frame without an error. -/
structure Frame.good (x : Frame) : Prop where
  m : x.mod.size ≤ 200
  f : x.fn.size ≤ 200
  l : x.file.size ≤ 200
  n0 : 0 ≤ x.line
  n1 : x.line ≤ 9999999
  a0 : -1 ≤ x.addr
  a1 : x.addr ≤ 281474976710655
/- The parts of a frame's line behind its name. -/
def partA (x : Frame) : List UInt8 := if emptyB x.file then [] else [32, 40] ++ x.file.data.toList ++ (if x.line = 0 then [] else 58 :: toldL x.line) ++ [41]
def partB (x : Frame) : List UInt8 := if x.addr = -1 then [] else [32, 64] ++ digs 16 x.addr.toNat
def partC (x : Frame) : List UInt8 := if x.own then [32, 42] else []
def placeL (x : Frame) : List UInt8 := partA x ++ partB x ++ partC x
def restL (x : Frame) : List UInt8 := (placeL x).drop 1
def lineL (x : Frame) : List UInt8 := (callB x).data.toList ++ placeL x
/-- The words of the rest of a line. -/
def wordsL (x : Frame) : List (List UInt8) := (if emptyB x.file then [] else [(partA x).drop 1]) ++ (if x.addr = -1 then [] else [(partB x).drop 1]) ++ (if x.own then [[42]] else [])
theorem words_rest (x : Frame) : (wordsL x).flatMap (fun s => 32 :: s) = placeL x := by
  unfold wordsL placeL
  rw [List.flatMap_append, List.flatMap_append]
  congr 1
  · congr 1
    · unfold partA; split <;> simp
    · unfold partB; split <;> simp
  · unfold partC; split <;> simp
/-- The line of a fault, with its end. -/
def headL (x : FaultT) : List UInt8 := x.kind.data.toList ++ (if emptyB x.text then [58] else [58, 32] ++ x.text.data.toList) ++ [10]
def causedL : List UInt8 := [67, 97, 117, 115, 101, 100, 32, 98, 121, 58, 32]
def goneN (l : List FaultT) (i : Nat) : Nat := if i = 0 then 0 else
  match l[i - 1]?, l[i]? with
  | some a, some b => if sharedN a.frs b.frs < 2 then 0 else sharedN a.frs b.frs
  | _, _ => 0
def frInner (x : Frame) : List UInt8 := [32, 32, 32, 32, 97, 116, 32] ++ lineL x ++ [10]
def moreL (n : Nat) : List UInt8 := if n = 0 then [] else [32, 32, 32, 32, 46, 46, 46, 32] ++ toldL n ++ [32, 109, 111, 114, 101, 10]
def innerAt (l : List FaultT) (i : Nat) : List UInt8 :=
  match l[i]? with
  | none => []
  | some f => (if i = 0 then [] else causedL) ++ headL f ++ (f.frs.take (f.frs.length - goneN l i)).flatMap frInner ++ moreL (goneN l i)
def traceL : List UInt8 := [84, 114, 97, 99, 101, 98, 97, 99, 107, 58, 10]
def whichL : List UInt8 := [119, 104, 105, 99, 104, 32, 108, 101, 100, 32, 116, 111, 58, 10]
def frOuter (x : Frame) : List UInt8 := [32, 32] ++ lineL x ++ [10]
def outerAt (l : List FaultT) (i : Nat) : List UInt8 :=
  match l[i]? with
  | none => []
  | some f => traceL ++ f.frs.reverse.flatMap frOuter ++ headL f ++ (if i = 0 then [] else whichL)
def faultL : List UInt8 := [102, 97, 117, 108, 116, 32]
def frPair (x : Frame) : List UInt8 := (callB x).data.toList ++ [10, 9] ++ restL x ++ [10]
def pairAt (l : List FaultT) (i : Nat) : List UInt8 :=
  match l[i]? with
  | none => []
  | some f => faultL ++ headL f ++ f.frs.flatMap frPair
/-- What is written of faults in a form. -/
def writtenL (l : List FaultT) (form : Int) : List UInt8 :=
  if form = 1 then (List.range l.length).flatMap (innerAt l) else if form = 2 then (List.range l.length).reverse.flatMap (outerAt l) else (List.range l.length).flatMap (pairAt l)
/-- Whether a name has a sign that it may not have. -/
def banged (l : List FaultT) : Bool := l.any fun f => f.frs.any fun x => x.fn.data.toList.contains 33 || x.mod.data.toList.contains 33
end Go.Proofs.YtncpeokniffafaaGreatDoor
