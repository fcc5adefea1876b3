/- What Parse and Parsed answer; their boxes (printed by gen_pq.py). -/
import Derived.Test.YthlhiegbiapllaaNmPaO7
import Derived.Test.YthlhiegbiapllaaNmSymE
import Derived.BigRegion
namespace Go.Proofs.Ythlhiegbiapllaa
open Go.RowKit
set_option linter.unusedVariables false
set_option linter.unusedSimpArgs false
def nullSym : Sym := ⟨[], []⟩
/-- What is answered: a symbol, a place, an error. -/
def psS (s : ByteArray) : Sym := if 8000 < s.size then nullSym else match pSym s with
  | .bad _ => nullSym
  | .ok _ a => if (symE a).1 = 0 then a else nullSym
def psN (s : ByteArray) : Int := if 8000 < s.size then 0 else match pSym s with
  | .bad e => e
  | .ok _ _ => 0
def psE (s : ByteArray) : Int := if 8000 < s.size then 4 else match pSym s with
  | .bad _ => 8
  | .ok _ a => (symE a).1
theorem nullSym_in (w : World) (k : Nat) : SymIn w k nullSym [.slice none 0 0, .slice none 0 0] := ⟨none, 0, 0, none, 0, 0, rfl, Nat.le_refl _, Nat.zero_le _, Nat.le_refl _, Nat.zero_le _, SlP.nil _ _ _ _ _, SlP.nil _ _ _ _ _⟩
theorem ps_big {s : ByteArray} (h : 8000 < s.size) : psS s = nullSym ∧ psN s = 0 ∧ psE s = 4 := ⟨if_pos h, if_pos h, if_pos h⟩
theorem ps_bad {s : ByteArray} {e : Nat} (h : s.size ≤ 8000) (hp : pSym s = .bad e) : psS s = nullSym ∧ psN s = e ∧ psE s = 8 := by
  have h8 : ¬ 8000 < s.size := by omega
  refine ⟨?_, ?_, ?_⟩ <;> simp [psS, psN, psE, hp, h8]
theorem ps_no {s : ByteArray} {i : Nat} {a : Sym} (h : s.size ≤ 8000) (hp : pSym s = .ok i a) (h0 : (symE a).1 ≠ 0) : psS s = nullSym ∧ psN s = 0 ∧ psE s = (symE a).1 := by
  have h8 : ¬ 8000 < s.size := by omega
  refine ⟨?_, ?_, ?_⟩ <;> simp [psS, psN, psE, hp, h8, h0]
theorem ps_ok {s : ByteArray} {i : Nat} {a : Sym} (h : s.size ≤ 8000) (hp : pSym s = .ok i a) (h0 : (symE a).1 = 0) : psS s = a ∧ psN s = 0 ∧ psE s = 0 := by
  have h8 : ¬ 8000 < s.size := by omega
  refine ⟨?_, ?_, ?_⟩ <;> simp [psS, psN, psE, hp, h8, h0]
/-- The three boxes: the answer's, the parser's, the symbol's. -/
structure Ps (T : TypeId) (s : ByteArray) (i wr : Int) (a b : Value) (w W : World) : Prop where
  be : Below w.heap.size w W
  rb : W.heap[w.heap.size]? = some (.cells #[.slice none 0 0, .slice none 0 0] 25 (0, 0))
  box : W.heap[w.heap.size + 1]? = some (.cells #[.string s, .int .i64 i, .int .i64 wr] T (0, 0))
  sb : W.heap[w.heap.size + 1 + 1]? = some (.cells #[a, b] 25 (0, 0))
/-- The blocks behind the boxes. -/
def S2 (w : World) (b : Nat) : Prop := w.heap.size + 1 + 1 < b
section
variable {T : TypeId} {s : ByteArray} {i wr : Int} {a b : Value} {w W W' : World}
theorem Ps.start (w : World) (s : ByteArray) (T : TypeId) : Ps T s 0 (-1) (.slice none 0 0) (.slice none 0 0) w (((w.alloc (.cells #[.slice none 0 0, .slice none 0 0] 25)).alloc (.cells #[.string s, .int .i64 0, .int .i64 (-1)] T)).alloc (.cells #[.slice none 0 0, .slice none 0 0] 25)) := by
  have h1 := heap_alloc_new w (.cells #[.slice none 0 0, .slice none 0 0] 25)
  have h2 := heap_alloc_new (w.alloc (.cells #[.slice none 0 0, .slice none 0 0] 25)) (.cells #[.string s, .int .i64 0, .int .i64 (-1)] T)
  have h3 := heap_alloc_new ((w.alloc (.cells #[.slice none 0 0, .slice none 0 0] 25)).alloc (.cells #[.string s, .int .i64 0, .int .i64 (-1)] T)) (.cells #[.slice none 0 0, .slice none 0 0] 25)
  have e2 : (w.alloc (.cells #[.slice none 0 0, .slice none 0 0] 25)).heap.size = w.heap.size + 1 := by simp
  have e3 : ((w.alloc (.cells #[.slice none 0 0, .slice none 0 0] 25)).alloc (.cells #[.string s, .int .i64 0, .int .i64 (-1)] T)).heap.size = w.heap.size + 1 + 1 := by simp
  rw [e2] at h2
  rw [e3] at h3
  have g := fun (x : World) (o : Obj) => (Below.refl x.heap.size x).alloc (Nat.le_refl _) o
  exact ⟨((g w _).alloc (by simp) _).alloc (by simp; omega) _, block_below (block_below h1 (g _ _)) (g _ _), block_below h2 (g _ _), h3⟩
theorem Ps.call {i' wr' : Int} (h : Ps T s i wr a b w W) (hc : Pb (w.heap.size + 1) T s i' wr' W W') : Ps T s i' wr' a b w W' :=
  ⟨h.be.trans (hc.bu.be.mono (by omega)), hc.bu.keep _ _ h.rb (by omega), hc.box, hc.bu.keep _ _ h.sb (by omega)⟩
theorem Ps.set0 (h : Ps T s i wr a b w W) (v : Value) : Ps T s i wr v b w (W.setCell ⟨w.heap.size + 1 + 1, 0, none⟩ v) :=
  ⟨h.be.setCell (p := ⟨w.heap.size + 1 + 1, 0, none⟩) (by simp; omega) _, block_set_other h.rb _ _ (by first | (simp; done) | (simp; omega)), block_set_other h.box _ _ (by first | (simp; done) | (simp; omega)), (block_set h.sb (i := 0) v).trans rfl⟩
theorem Ps.set1 (h : Ps T s i wr a b w W) (v : Value) : Ps T s i wr a v w (W.setCell ⟨w.heap.size + 1 + 1, 1, none⟩ v) :=
  ⟨h.be.setCell (p := ⟨w.heap.size + 1 + 1, 1, none⟩) (by simp; omega) _, block_set_other h.rb _ _ (by first | (simp; done) | (simp; omega)), block_set_other h.box _ _ (by first | (simp; done) | (simp; omega)), (block_set h.sb (i := 1) v).trans rfl⟩
theorem Ps.pb (h : Ps T s i wr a b w W) : Pb (w.heap.size + 1) T s i wr W W := Pb.start h.box
theorem Ps.lt (h : Ps T s i wr a b w W) : w.heap.size + 1 + 1 < W.heap.size := lt_of_block h.sb
theorem stay_call {i' wr' : Int} (hc : Pb (w.heap.size + 1) T s i' wr' W W') : StayS (S2 w) W W' := ⟨hc.bu.be.size, fun k o hk ho => hc.bu.keep k o ho (by unfold S2 at hk; omega)⟩
theorem stay_s (w W : World) (j : Nat) (v : Value) : StayS (S2 w) W (W.setCell ⟨w.heap.size + 1 + 1, j, none⟩ v) := ⟨by simp, fun k o hk ho => block_set_other ho _ _ (by unfold S2 at hk; simp; omega)⟩
end
def NmS (w W : World) (A : Option Addr) (n q : Nat) (l : List Part) : Prop := n ≤ q ∧ q ≤ maxLen ∧ SlS W (S2 w) 2 (PartS W (S2 w) (TyS W (S2 w) 12)) A n l
def TkS (w W : World) (A : Option Addr) (n q : Nat) (l : List Ty) : Prop := n ≤ q ∧ q ≤ maxLen ∧ SlS W (S2 w) 3 (TyS W (S2 w) 12) A n l
theorem NmS.stay {w W W' : World} {A : Option Addr} {n q : Nat} {l : List Part} (h : NmS w W A n q l) (hs : StayS (S2 w) W W') : NmS w W' A n q l :=
  ⟨h.1, h.2.1, h.2.2.stay hs (fun _ h _ => h) (fun a _ cs h => h.stay hs (fun _ h _ => h) (fun a cs h => TyS.stay hs (fun _ h _ => h) h))⟩
theorem TkS.stay {w W W' : World} {A : Option Addr} {n q : Nat} {l : List Ty} (h : TkS w W A n q l) (hs : StayS (S2 w) W W') : TkS w W' A n q l :=
  ⟨h.1, h.2.1, h.2.2.stay hs (fun _ h _ => h) (fun a _ cs h => TyS.stay hs (fun _ h _ => h) h)⟩
theorem stay_b {w W W' : World} (h : Below W.heap.size W W') : StayS (S2 w) W W' := ⟨h.size, fun k o _ ho => block_below ho h⟩
theorem stay_rb (w W : World) (x y : Value) : StayS (S2 w) W ((W.setCell ⟨w.heap.size, 0, none⟩ x).setCell ⟨w.heap.size, 1, none⟩ y) :=
  ⟨by simp, fun k o hk ho => block_set_other (block_set_other ho _ _ (by unfold S2 at hk; simp; omega)) _ _ (by unfold S2 at hk; simp; omega)⟩
theorem NmS.of {w W W' : World} {A : Option Addr} {n q : Nat} {l : List Part} (h : PartsNew 12 W W' A n q l) (hl : w.heap.size + 1 + 1 < W.heap.size) : NmS w W' A n q l :=
  ⟨h.1, h.2.1, h.2.2.stay (StayS.refl _ _) (fun b h _ => by unfold S2; omega) (fun a _ cs h => h.stay (StayS.refl _ _) (fun b h _ => by unfold S2; omega) (fun a cs h => TyS.stay (StayS.refl _ _) (fun b h _ => by unfold S2; omega) h))⟩
theorem TkS.of {w W W' : World} {A : Option Addr} {n q : Nat} {l : List Ty} (h : TysNew 12 W W' A n q l) (hl : w.heap.size + 1 + 1 < W.heap.size) : TkS w W' A n q l := by
  obtain ⟨A9, q9, h9, h91, h92, h93⟩ := h.done (stay_ty 12)
  simp only [Value.slice.injEq, true_and] at h9
  obtain ⟨rfl, rfl⟩ := h9
  exact ⟨h91, h92, h93.stay (StayS.refl _ _) (fun b h _ => by unfold S2; omega) (fun a _ cs h => TyS.stay (StayS.refl _ _) (fun b h _ => by unfold S2; omega) h)⟩
theorem TkS.nil (w W : World) : TkS w W none 0 0 [] := ⟨Nat.le_refl _, Nat.zero_le _, SlS.nil _ _ _ _ _⟩
theorem sym_of {w W : World} {A A' : Option Addr} {n q n' q' : Nat} {a : List Part} {l : List Ty} (h1 : NmS w W A n q a) (h2 : TkS w W A' n' q' l) : SymIn W 12 ⟨a, l⟩ [.slice A n q, .slice A' n' q'] :=
  ⟨A, n, q, A', n', q', rfl, h1.1, h1.2.1, h2.1, h2.2.1, h1.2.2.toP (fun _ _ h => h) (fun p _ cs h => by
    obtain ⟨A, n, cap, e, g1, g2, g3, g4⟩ := h
    exact ⟨A, n, cap, e, g1, g2, g3, g4.toP (fun _ _ h => h) (fun a _ cs h => TyS.toP (fun _ _ h => h) h)⟩), h2.2.2.toP (fun _ _ h => h) (fun a _ cs h => TyS.toP (fun _ _ h => h) h)⟩
set_option maxHeartbeats 4000000 in
theorem nParts_off (c : Nat) (s x : ByteArray) (i : Nat) (wq d : Int) (w : World) (h0 : 0 ≤ wq) (h : w.heap[c]? = some (.cells #[.string s, .int .i64 i, .int .i64 wq] 58 (0, 0))) :
    Calls Try.prog 27 #[.pointer (some ⟨c, 0, none⟩), .string x, .int .i64 d] w fun e w' => e = .returned (.slice none 0 0) ∧ Pb c 58 s i wq w w' := by
  have HP := hide (Pb.start h)
  have c2 := HP.out.c2
  have h1 : decide (wq < 0) = false := by simp; omega
  clear h
  go_enter Try.func27, Try.ntmps27
  go_wp2_with (fail)
  go_loopw [7, 8] (fun v t wr => v = .slice none 0 0 ∧ t = .string x ∧ wr = w) (fun _ _ _ => 0)
  case atStart => exact ⟨rfl, rfl, rfl⟩
  case round =>
    obtain ⟨rfl, rfl, rfl⟩ := hrel
    go_wp2_with (fail)
    go_ret
    exact ⟨rfl, HP.out⟩
section
variable {s : ByteArray} {e i j k m : Nat} {a : List Part} {l : List Ty} {u u2 : Unit}
theorem pSym_1 (h : pName s = .bad e) : pSym s = .bad e := by rw [pSym, h]; rfl
theorem pSym_2 (h : pName s = .ok i a) (h1 : needB s [40] i = .bad e) : pSym s = .bad e := by rw [pSym, h]; simp only [Res.bind]; rw [h1]
theorem pSym_3 (h : pName s = .ok i a) (h1 : needB s [40] i = .ok j u) (h2 : pTakes s (pOne s 12) j = .bad e) : pSym s = .bad e := by rw [pSym, h]; simp only [Res.bind]; rw [h1]; simp only []; rw [h2]
theorem pSym_4 (h : pName s = .ok i a) (h1 : needB s [40] i = .ok j u) (h2 : pTakes s (pOne s 12) j = .ok k l) (h3 : needB s [41] k = .bad e) : pSym s = .bad e := by rw [pSym, h]; simp only [Res.bind]; rw [h1]; simp only []; rw [h2]; simp only []; rw [h3]
theorem pSym_5 (h : pName s = .ok i a) (h1 : needB s [40] i = .ok j u) (h2 : pTakes s (pOne s 12) j = .ok k l) (h3 : needB s [41] k = .ok m u2) (h4 : m < s.size) : pSym s = .bad m := by rw [pSym, h]; simp only [Res.bind]; rw [h1]; simp only []; rw [h2]; simp only []; rw [h3]; simp only []; rw [if_pos h4]
theorem pSym_6 (h : pName s = .ok i a) (h1 : needB s [40] i = .ok j u) (h2 : pTakes s (pOne s 12) j = .ok k l) (h3 : needB s [41] k = .ok m u2) (h4 : ¬ m < s.size) : pSym s = .ok m ⟨a, l⟩ := by rw [pSym, h]; simp only [Res.bind]; rw [h1]; simp only []; rw [h2]; simp only []; rw [h3]; simp only []; rw [if_neg h4]
theorem pTakes_yes (h : isB s j 41 = true) : pTakes s (pOne s 12) j = .ok j [] := by rw [pTakes, if_pos (isB_true h)]
theorem pTakes_no (h : isB s j 41 = false) : pTakes s (pOne s 12) j = pTys s (pOne s 12) (s.size + 1) [] j := by rw [pTakes, if_neg (isB_false h)]
theorem need_one {b : UInt8} (h : isB s j b = true) : needB s [b] j = .ok (j + 1) () := by rw [needB, if_pos (isB_true h)]; rfl
end
end Go.Proofs.Ythlhiegbiapllaa
