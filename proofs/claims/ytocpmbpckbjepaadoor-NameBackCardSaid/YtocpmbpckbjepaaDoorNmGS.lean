/- NmPaO7, NmPaQ, NmPaQ1, NmPaR: texts of one's own, in one file. -/
import Derived.Test.YtocpmbpckbjepaaDoorNmGX
import Derived.Test.YtocpmbpckbjepaaDoorNmGY
import Derived.Test.YtocpmbpckbjepaaDoorNmSymE
import Derived.BigRegion
/- Walks of the parsers' one: all of it (printed by gen_po.py). -/
namespace Go.Proofs.YtocpmbpckbjepaaDoor
open Go.RowKit
set_option linter.unusedVariables false
set_option linter.unusedSimpArgs false
theorem nOneOk_zero : nOneOkP 0 := by
  intro c s i d w hs hi hd h
  obtain rfl : d = 12 := by simpa using hd
  by_cases hid : idL s i = 0
  · exact nOne_noP c s i 12 w hs hi hid h
  exact nOne_zeroP c s i _ _ w hs hi hid rfl rfl h
theorem nOneOk_succ {f : Nat} (hf : f + 1 ≤ 12) (H : nOneOkP f) : nOneOkP (f + 1) := by
  intro c s i d w hs hi hd h
  have HT := nTys_ofP H
  have HPA := nParts_of HT
  by_cases hid : idL s i = 0
  · exact nOne_noP c s i d w hs hi hid h
  have hle := idL_le s i hi
  by_cases h1 : s.extract i (i + idL s i) = refS
  · exact nOne_ref H HT HPA c s i _ _ d w hs hi hd hf hid rfl rfl hle h1 h
  by_cases h2 : s.extract i (i + idL s i) = listS
  · exact nOne_list H HT HPA c s i _ _ d w hs hi hd hf hid rfl rfl hle h2 h
  by_cases h3 : s.extract i (i + idL s i) = funcS
  · cases hk0 : needB s [40] (i + idL s i) with
    | bad e => exact nOne_func1 H HT HPA c s i _ _ d w hs hi hd hf hid rfl rfl hle h1 h2 h3 e hk0 h
    | ok j u =>
      have hjs := (needB_ok s [40] _ j u hle hk0).2
      cases hv : isB s j 41
      · have hfr := pTys_from (pOne_from s f) (s.size + 1) [] j hjs
        cases ht : pTys s (pOne s f) (s.size + 1) [] j with
        | bad e => exact nOne_func3 H HT HPA c s i _ _ d w hs hi hd hf hid rfl rfl hle h1 h2 h3 j u hjs hk0 hv e ht h
        | ok k l =>
          have hks : k ≤ s.size := by rw [ht] at hfr; exact hfr.2
          cases hk5 : needB s [41, 32] k with
          | bad e => exact nOne_func4a H HT HPA c s i _ _ d w hs hi hd hf hid rfl rfl hle h1 h2 h3 j u hjs hk0 k l hks hv ht e hk5 h
          | ok z u2 =>
            have hzs := (needB_ok s [41, 32] _ z u2 hks hk5).2
            cases hr : pOne s f z with
            | bad e => exact nOne_func4b H HT HPA c s i _ _ d w hs hi hd hf hid rfl rfl hle h1 h2 h3 j u hjs hk0 k l hks hv ht z u2 hzs hk5 e hr h
            | ok y t => exact nOne_func4c H HT HPA c s i _ _ d w hs hi hd hf hid rfl rfl hle h1 h2 h3 j u hjs hk0 k l hks hv ht z u2 hzs hk5 y t hr h
      · cases hk5 : needB s [41, 32] j with
        | bad e => exact nOne_func2a H HT HPA c s i _ _ d w hs hi hd hf hid rfl rfl hle h1 h2 h3 j u hjs hk0 hv e hk5 h
        | ok z u2 =>
          have hzs := (needB_ok s [41, 32] _ z u2 hjs hk5).2
          cases hr : pOne s f z with
          | bad e => exact nOne_func2b H HT HPA c s i _ _ d w hs hi hd hf hid rfl rfl hle h1 h2 h3 j u hjs hk0 hv z u2 hzs hk5 e hr h
          | ok y t => exact nOne_func2c H HT HPA c s i _ _ d w hs hi hd hf hid rfl rfl hle h1 h2 h3 j u hjs hk0 hv z u2 hzs hk5 y t hr h
  exact nOne_plain H HT HPA c s i _ _ d w hs hi hd hf hid rfl rfl hle h1 h2 h3 h
theorem nOneAll : ∀ f, f ≤ 12 → nOneOkP f
  | 0, _ => nOneOk_zero
  | f + 1, h => nOneOk_succ h (nOneAll f (by omega))
end Go.Proofs.YtocpmbpckbjepaaDoor

/- What Parse and Parsed answer; their boxes (printed by gen_pq.py). -/
namespace Go.Proofs.YtocpmbpckbjepaaDoor
open Go.RowKit
set_option linter.unusedVariables false
set_option linter.unusedSimpArgs false
def nullSym : Sym := ⟨[], []⟩
/-- What is answered: a symbol, a place, an error. -/
def psS (s : ByteArray) : Sym := if 8000 < s.size then nullSym else match pSym s with
  | .bad _ => nullSym
  | .ok _ a => if (symE a).1 = 0 then a else nullSym
def psN (s : ByteArray) : Int := if 8000 < s.size then 0 else match pSym s with
  | .bad e => e
  | .ok _ _ => 0
def psE (s : ByteArray) : Int := if 8000 < s.size then 4 else match pSym s with
  | .bad _ => 8
  | .ok _ a => (symE a).1
theorem nullSym_in (w : World) (k : Nat) : SymIn w k nullSym [.slice none 0 0, .slice none 0 0] := ⟨none, 0, 0, none, 0, 0, rfl, Nat.le_refl _, Nat.zero_le _, Nat.le_refl _, Nat.zero_le _, SlP.nil _ _ _ _ _, SlP.nil _ _ _ _ _⟩
theorem ps_big {s : ByteArray} (h : 8000 < s.size) : psS s = nullSym ∧ psN s = 0 ∧ psE s = 4 := ⟨if_pos h, if_pos h, if_pos h⟩
theorem ps_bad {s : ByteArray} {e : Nat} (h : s.size ≤ 8000) (hp : pSym s = .bad e) : psS s = nullSym ∧ psN s = e ∧ psE s = 8 := by
  have h8 : ¬ 8000 < s.size := by omega
  refine ⟨?_, ?_, ?_⟩ <;> simp [psS, psN, psE, hp, h8]
theorem ps_no {s : ByteArray} {i : Nat} {a : Sym} (h : s.size ≤ 8000) (hp : pSym s = .ok i a) (h0 : (symE a).1 ≠ 0) : psS s = nullSym ∧ psN s = 0 ∧ psE s = (symE a).1 := by
  have h8 : ¬ 8000 < s.size := by omega
  refine ⟨?_, ?_, ?_⟩ <;> simp [psS, psN, psE, hp, h8, h0]
theorem ps_ok {s : ByteArray} {i : Nat} {a : Sym} (h : s.size ≤ 8000) (hp : pSym s = .ok i a) (h0 : (symE a).1 = 0) : psS s = a ∧ psN s = 0 ∧ psE s = 0 := by
  have h8 : ¬ 8000 < s.size := by omega
  refine ⟨?_, ?_, ?_⟩ <;> simp [psS, psN, psE, hp, h8, h0]
/-- The three boxes: the answer's, the parser's, the symbol's. -/
structure Ps (T : TypeId) (s : ByteArray) (i wr : Int) (a b : Value) (w W : World) : Prop where
  be : Below w.heap.size w W
  rb : W.heap[w.heap.size]? = some (.cells #[.slice none 0 0, .slice none 0 0] 25 (0, 0))
  box : W.heap[w.heap.size + 1]? = some (.cells #[.string s, .int .i64 i, .int .i64 wr] T (0, 0))
  sb : W.heap[w.heap.size + 1 + 1]? = some (.cells #[a, b] 25 (0, 0))
/-- The blocks behind the boxes. -/
def S2 (w : World) (b : Nat) : Prop := w.heap.size + 1 + 1 < b
section
variable {T : TypeId} {s : ByteArray} {i wr : Int} {a b : Value} {w W W' : World}
theorem Ps.start (w : World) (s : ByteArray) (T : TypeId) : Ps T s 0 (-1) (.slice none 0 0) (.slice none 0 0) w (((w.alloc (.cells #[.slice none 0 0, .slice none 0 0] 25)).alloc (.cells #[.string s, .int .i64 0, .int .i64 (-1)] T)).alloc (.cells #[.slice none 0 0, .slice none 0 0] 25)) := by
  have h1 := heap_alloc_new w (.cells #[.slice none 0 0, .slice none 0 0] 25)
  have h2 := heap_alloc_new (w.alloc (.cells #[.slice none 0 0, .slice none 0 0] 25)) (.cells #[.string s, .int .i64 0, .int .i64 (-1)] T)
  have h3 := heap_alloc_new ((w.alloc (.cells #[.slice none 0 0, .slice none 0 0] 25)).alloc (.cells #[.string s, .int .i64 0, .int .i64 (-1)] T)) (.cells #[.slice none 0 0, .slice none 0 0] 25)
  have e2 : (w.alloc (.cells #[.slice none 0 0, .slice none 0 0] 25)).heap.size = w.heap.size + 1 := by simp
  have e3 : ((w.alloc (.cells #[.slice none 0 0, .slice none 0 0] 25)).alloc (.cells #[.string s, .int .i64 0, .int .i64 (-1)] T)).heap.size = w.heap.size + 1 + 1 := by simp
  rw [e2] at h2
  rw [e3] at h3
  have g := fun (x : World) (o : Obj) => (Below.refl x.heap.size x).alloc (Nat.le_refl _) o
  exact ⟨((g w _).alloc (by simp) _).alloc (by simp; omega) _, block_below (block_below h1 (g _ _)) (g _ _), block_below h2 (g _ _), h3⟩
theorem Ps.call {i' wr' : Int} (h : Ps T s i wr a b w W) (hc : Pb (w.heap.size + 1) T s i' wr' W W') : Ps T s i' wr' a b w W' :=
  ⟨h.be.trans (hc.bu.be.mono (by omega)), hc.bu.keep _ _ h.rb (by omega), hc.box, hc.bu.keep _ _ h.sb (by omega)⟩
theorem Ps.set0 (h : Ps T s i wr a b w W) (v : Value) : Ps T s i wr v b w (W.setCell ⟨w.heap.size + 1 + 1, 0, none⟩ v) :=
  ⟨h.be.setCell (p := ⟨w.heap.size + 1 + 1, 0, none⟩) (by simp; omega) _, block_set_other h.rb _ _ (by first | (simp; done) | (simp; omega)), block_set_other h.box _ _ (by first | (simp; done) | (simp; omega)), (block_set h.sb (i := 0) v).trans rfl⟩
theorem Ps.set1 (h : Ps T s i wr a b w W) (v : Value) : Ps T s i wr a v w (W.setCell ⟨w.heap.size + 1 + 1, 1, none⟩ v) :=
  ⟨h.be.setCell (p := ⟨w.heap.size + 1 + 1, 1, none⟩) (by simp; omega) _, block_set_other h.rb _ _ (by first | (simp; done) | (simp; omega)), block_set_other h.box _ _ (by first | (simp; done) | (simp; omega)), (block_set h.sb (i := 1) v).trans rfl⟩
theorem Ps.pb (h : Ps T s i wr a b w W) : Pb (w.heap.size + 1) T s i wr W W := Pb.start h.box
theorem Ps.lt (h : Ps T s i wr a b w W) : w.heap.size + 1 + 1 < W.heap.size := lt_of_block h.sb
theorem stay_call {i' wr' : Int} (hc : Pb (w.heap.size + 1) T s i' wr' W W') : StayS (S2 w) W W' := ⟨hc.bu.be.size, fun k o hk ho => hc.bu.keep k o ho (by unfold S2 at hk; omega)⟩
theorem stay_s (w W : World) (j : Nat) (v : Value) : StayS (S2 w) W (W.setCell ⟨w.heap.size + 1 + 1, j, none⟩ v) := ⟨by simp, fun k o hk ho => block_set_other ho _ _ (by unfold S2 at hk; simp; omega)⟩
end
def NmS (w W : World) (A : Option Addr) (n q : Nat) (l : List Part) : Prop := n ≤ q ∧ q ≤ maxLen ∧ SlS W (S2 w) 2 (PartS W (S2 w) (TyS W (S2 w) 12)) A n l
def TkS (w W : World) (A : Option Addr) (n q : Nat) (l : List Ty) : Prop := n ≤ q ∧ q ≤ maxLen ∧ SlS W (S2 w) 3 (TyS W (S2 w) 12) A n l
theorem NmS.stay {w W W' : World} {A : Option Addr} {n q : Nat} {l : List Part} (h : NmS w W A n q l) (hs : StayS (S2 w) W W') : NmS w W' A n q l :=
  ⟨h.1, h.2.1, h.2.2.stay hs (fun _ h _ => h) (fun a _ cs h => h.stay hs (fun _ h _ => h) (fun a cs h => TyS.stay hs (fun _ h _ => h) h))⟩
theorem TkS.stay {w W W' : World} {A : Option Addr} {n q : Nat} {l : List Ty} (h : TkS w W A n q l) (hs : StayS (S2 w) W W') : TkS w W' A n q l :=
  ⟨h.1, h.2.1, h.2.2.stay hs (fun _ h _ => h) (fun a _ cs h => TyS.stay hs (fun _ h _ => h) h)⟩
theorem stay_b {w W W' : World} (h : Below W.heap.size W W') : StayS (S2 w) W W' := ⟨h.size, fun k o _ ho => block_below ho h⟩
theorem stay_rb (w W : World) (x y : Value) : StayS (S2 w) W ((W.setCell ⟨w.heap.size, 0, none⟩ x).setCell ⟨w.heap.size, 1, none⟩ y) :=
  ⟨by simp, fun k o hk ho => block_set_other (block_set_other ho _ _ (by unfold S2 at hk; simp; omega)) _ _ (by unfold S2 at hk; simp; omega)⟩
theorem NmS.of {w W W' : World} {A : Option Addr} {n q : Nat} {l : List Part} (h : PartsNew 12 W W' A n q l) (hl : w.heap.size + 1 + 1 < W.heap.size) : NmS w W' A n q l :=
  ⟨h.1, h.2.1, h.2.2.stay (StayS.refl _ _) (fun b h _ => by unfold S2; omega) (fun a _ cs h => h.stay (StayS.refl _ _) (fun b h _ => by unfold S2; omega) (fun a cs h => TyS.stay (StayS.refl _ _) (fun b h _ => by unfold S2; omega) h))⟩
theorem TkS.of {w W W' : World} {A : Option Addr} {n q : Nat} {l : List Ty} (h : TysNew 12 W W' A n q l) (hl : w.heap.size + 1 + 1 < W.heap.size) : TkS w W' A n q l := by
  obtain ⟨A9, q9, h9, h91, h92, h93⟩ := h.done (stay_ty 12)
  simp only [Value.slice.injEq, true_and] at h9
  obtain ⟨rfl, rfl⟩ := h9
  exact ⟨h91, h92, h93.stay (StayS.refl _ _) (fun b h _ => by unfold S2; omega) (fun a _ cs h => TyS.stay (StayS.refl _ _) (fun b h _ => by unfold S2; omega) h)⟩
theorem TkS.nil (w W : World) : TkS w W none 0 0 [] := ⟨Nat.le_refl _, Nat.zero_le _, SlS.nil _ _ _ _ _⟩
theorem sym_of {w W : World} {A A' : Option Addr} {n q n' q' : Nat} {a : List Part} {l : List Ty} (h1 : NmS w W A n q a) (h2 : TkS w W A' n' q' l) : SymIn W 12 ⟨a, l⟩ [.slice A n q, .slice A' n' q'] :=
  ⟨A, n, q, A', n', q', rfl, h1.1, h1.2.1, h2.1, h2.2.1, h1.2.2.toP (fun _ _ h => h) (fun p _ cs h => by
    obtain ⟨A, n, cap, e, g1, g2, g3, g4⟩ := h
    exact ⟨A, n, cap, e, g1, g2, g3, g4.toP (fun _ _ h => h) (fun a _ cs h => TyS.toP (fun _ _ h => h) h)⟩), h2.2.2.toP (fun _ _ h => h) (fun a _ cs h => TyS.toP (fun _ _ h => h) h)⟩
set_option maxHeartbeats 4000000 in
theorem nParts_off (c : Nat) (s x : ByteArray) (i : Nat) (wq d : Int) (w : World) (h0 : 0 ≤ wq) (h : w.heap[c]? = some (.cells #[.string s, .int .i64 i, .int .i64 wq] 86 (0, 0))) :
    Calls Tryd.prog 35 #[.pointer (some ⟨c, 0, none⟩), .string x, .int .i64 d] w fun e w' => e = .returned (.slice none 0 0) ∧ Pb c 86 s i wq w w' := by
  have HP := hide (Pb.start h)
  have c2 := HP.out.c2
  have h1 : decide (wq < 0) = false := by simp; omega
  clear h
  go_enter Tryd.func35, Tryd.ntmps35
  go_wp2_with (fail)
  go_loopw [7, 8] (fun v t wr => v = .slice none 0 0 ∧ t = .string x ∧ wr = w) (fun _ _ _ => 0)
  case atStart => exact ⟨rfl, rfl, rfl⟩
  case round =>
    obtain ⟨rfl, rfl, rfl⟩ := hrel
    go_wp2_with (fail)
    go_ret
    exact ⟨rfl, HP.out⟩
section
variable {s : ByteArray} {e i j k m : Nat} {a : List Part} {l : List Ty} {u u2 : Unit}
theorem pSym_1 (h : pName s = .bad e) : pSym s = .bad e := by rw [pSym, h]; rfl
theorem pSym_2 (h : pName s = .ok i a) (h1 : needB s [40] i = .bad e) : pSym s = .bad e := by rw [pSym, h]; simp only [Res.bind]; rw [h1]
theorem pSym_3 (h : pName s = .ok i a) (h1 : needB s [40] i = .ok j u) (h2 : pTakes s (pOne s 12) j = .bad e) : pSym s = .bad e := by rw [pSym, h]; simp only [Res.bind]; rw [h1]; simp only []; rw [h2]
theorem pSym_4 (h : pName s = .ok i a) (h1 : needB s [40] i = .ok j u) (h2 : pTakes s (pOne s 12) j = .ok k l) (h3 : needB s [41] k = .bad e) : pSym s = .bad e := by rw [pSym, h]; simp only [Res.bind]; rw [h1]; simp only []; rw [h2]; simp only []; rw [h3]
theorem pSym_5 (h : pName s = .ok i a) (h1 : needB s [40] i = .ok j u) (h2 : pTakes s (pOne s 12) j = .ok k l) (h3 : needB s [41] k = .ok m u2) (h4 : m < s.size) : pSym s = .bad m := by rw [pSym, h]; simp only [Res.bind]; rw [h1]; simp only []; rw [h2]; simp only []; rw [h3]; simp only []; rw [if_pos h4]
theorem pSym_6 (h : pName s = .ok i a) (h1 : needB s [40] i = .ok j u) (h2 : pTakes s (pOne s 12) j = .ok k l) (h3 : needB s [41] k = .ok m u2) (h4 : ¬ m < s.size) : pSym s = .ok m ⟨a, l⟩ := by rw [pSym, h]; simp only [Res.bind]; rw [h1]; simp only []; rw [h2]; simp only []; rw [h3]; simp only []; rw [if_neg h4]
theorem pTakes_yes (h : isB s j 41 = true) : pTakes s (pOne s 12) j = .ok j [] := by rw [pTakes, if_pos (isB_true h)]
theorem pTakes_no (h : isB s j 41 = false) : pTakes s (pOne s 12) j = pTys s (pOne s 12) (s.size + 1) [] j := by rw [pTakes, if_neg (isB_false h)]
theorem need_one {b : UInt8} (h : isB s j b = true) : needB s [b] j = .ok (j + 1) () := by rw [needB, if_pos (isB_true h)]; rfl
end
end Go.Proofs.YtocpmbpckbjepaaDoor

/- Walks of Parse (printed by gen_pq.py). -/
namespace Go.Proofs.YtocpmbpckbjepaaDoor
open Go.RowKit
set_option linter.unusedVariables false
set_option linter.unusedSimpArgs false
set_option maxRecDepth 100000 in
set_option maxHeartbeats 16000000 in
theorem nParse_0 (s : ByteArray) (w : World) (hs : s.size ≤ 8000) (hid : idL s 0 = 0) :
    Calls Tryd.prog 15 #[.string s] w fun r w' => r = .returned (.tuple #[.agg #[.slice none 0 0, .slice none 0 0], .int .i64 (0 : Nat), .int .i64 8]) ∧ Below w.heap.size w w' := by
  have HP0 := hide (Ps.start w s 86)
  have h8 : decide ((8000 : Int) < (s.size : Int)) = false := by simp; omega
  have HID := hide (show ∀ (W : World), W.heap[w.heap.size + 1]? = some (.cells #[.string s, .int .i64 (0 : Nat), .int .i64 (-1)] 86 (0, 0)) → Calls Tryd.prog 36 #[.pointer (some ⟨w.heap.size + 1, 0, none⟩)] W fun r w' => r = .returned (.string ⟨#[]⟩) ∧ Pb (w.heap.size + 1) 86 s (0 : Nat) (0 : Nat) W w' from fun W h => by have h1 := nIdent_onP (w.heap.size + 1) s 0 W hs (Nat.zero_le _) h; rw [idWr, if_pos hid, hid, Nat.add_zero, ext_nil] at h1; exact h1)
  have HPR := hide (show ∀ (yy : Nat) (W : World), W.heap[w.heap.size + 1]? = some (.cells #[.string s, .int .i64 yy, .int .i64 (0 : Nat)] 86 (0, 0)) → Calls Tryd.prog 35 #[.pointer (some ⟨w.heap.size + 1, 0, none⟩), .string ⟨#[]⟩, .int .i64 0] W fun r w' => r = .returned (.slice none 0 0) ∧ Pb (w.heap.size + 1) 86 s yy (0 : Nat) W w' from fun yy W h => nParts_off (w.heap.size + 1) s ⟨#[]⟩ yy (0 : Nat) 0 W (by omega) h)
  have HK1 := hide (show ∀ (yy : Nat) (W : World), W.heap[w.heap.size + 1]? = some (.cells #[.string s, .int .i64 yy, .int .i64 (0 : Nat)] 86 (0, 0)) → Calls Tryd.prog 37 #[.pointer (some ⟨w.heap.size + 1, 0, none⟩), .string ⟨#[40]⟩] W fun r w' => r = .returned (.tuple #[]) ∧ Pb (w.heap.size + 1) 86 s yy (0 : Nat) W w' from fun yy W h => nTake_offP (w.heap.size + 1) s ⟨#[40]⟩ yy (0 : Nat) W (by omega) (by decide) (by decide) h)
  have HIS := hide (show ∀ (yy : Nat) (W : World), W.heap[w.heap.size + 1]? = some (.cells #[.string s, .int .i64 yy, .int .i64 (0 : Nat)] 86 (0, 0)) → Calls Tryd.prog 38 #[.pointer (some ⟨w.heap.size + 1, 0, none⟩), .int .u8 41] W fun r w' => r = .returned (.bool false) ∧ Pb (w.heap.size + 1) 86 s yy (0 : Nat) W w' from fun yy W h => nIs_off (w.heap.size + 1) s yy (0 : Nat) 41 W (by omega) h)
  have HK2 := hide (show ∀ (yy : Nat) (W : World), W.heap[w.heap.size + 1]? = some (.cells #[.string s, .int .i64 yy, .int .i64 (0 : Nat)] 86 (0, 0)) → Calls Tryd.prog 37 #[.pointer (some ⟨w.heap.size + 1, 0, none⟩), .string ⟨#[41]⟩] W fun r w' => r = .returned (.tuple #[]) ∧ Pb (w.heap.size + 1) 86 s yy (0 : Nat) W w' from fun yy W h => nTake_offP (w.heap.size + 1) s ⟨#[41]⟩ yy (0 : Nat) W (by omega) (by decide) (by decide) h)
  clear hid
  go_enter Tryd.func15, Tryd.ntmps15
  go_wp2_with (first
    | (go_at_call 36; ((with_reducible refine (HID.out _ HP0.out.box).mono ?_)); rintro r w1 ⟨rfl, hq1⟩; have HP1 := hide (HP0.out.call hq1); have c1 := HP1.out.pb.c1; have c2 := HP1.out.pb.c2; have y0 : w1.cell? ⟨w.heap.size + 1 + 1, 0, none⟩ = some (.slice none 0 0) := (block_cell HP1.out.sb 0).trans rfl; have y1 : w1.cell? ⟨w.heap.size + 1 + 1, 1, none⟩ = some (.slice none 0 0) := (block_cell HP1.out.sb 1).trans rfl; have yf0 : w1.frozen? ⟨w.heap.size + 1 + 1, 0, none⟩ = false := block_free HP1.out.sb 0; have yf1 : w1.frozen? ⟨w.heap.size + 1 + 1, 1, none⟩ = false := block_free HP1.out.sb 1; clear hq1)
    | (go_at_call 35; ((with_reducible refine (HPR.out _ _ HP1.out.box).mono ?_)); rintro r w2 ⟨rfl, hq2⟩; have HP2 := hide (HP1.out.call hq2); have c1 := HP2.out.pb.c1; have c2 := HP2.out.pb.c2; have y0 : w2.cell? ⟨w.heap.size + 1 + 1, 0, none⟩ = some (.slice none 0 0) := (block_cell HP2.out.sb 0).trans rfl; have y1 : w2.cell? ⟨w.heap.size + 1 + 1, 1, none⟩ = some (.slice none 0 0) := (block_cell HP2.out.sb 1).trans rfl; have yf0 : w2.frozen? ⟨w.heap.size + 1 + 1, 0, none⟩ = false := block_free HP2.out.sb 0; have yf1 : w2.frozen? ⟨w.heap.size + 1 + 1, 1, none⟩ = false := block_free HP2.out.sb 1; have HP2s := hide (HP2.out.set0 (.slice none 0 0)); clear hq2)
    | (go_at_call 37; ((with_reducible refine (HK1.out _ _ HP2s.out.box).mono ?_)); rintro r w3 ⟨rfl, hq3⟩; have HP3 := hide (HP2s.out.call hq3); have c1 := HP3.out.pb.c1; have c2 := HP3.out.pb.c2; have y0 : w3.cell? ⟨w.heap.size + 1 + 1, 0, none⟩ = some (.slice none 0 0) := (block_cell HP3.out.sb 0).trans rfl; have y1 : w3.cell? ⟨w.heap.size + 1 + 1, 1, none⟩ = some (.slice none 0 0) := (block_cell HP3.out.sb 1).trans rfl; have yf0 : w3.frozen? ⟨w.heap.size + 1 + 1, 0, none⟩ = false := block_free HP3.out.sb 0; have yf1 : w3.frozen? ⟨w.heap.size + 1 + 1, 1, none⟩ = false := block_free HP3.out.sb 1; clear hq3)
    | (go_at_call 38; ((with_reducible refine (HIS.out _ _ HP3.out.box).mono ?_)); rintro r w4 ⟨rfl, hq4⟩; have HP4 := hide (HP3.out.call hq4); have c1 := HP4.out.pb.c1; have c2 := HP4.out.pb.c2; have y0 : w4.cell? ⟨w.heap.size + 1 + 1, 0, none⟩ = some (.slice none 0 0) := (block_cell HP4.out.sb 0).trans rfl; have y1 : w4.cell? ⟨w.heap.size + 1 + 1, 1, none⟩ = some (.slice none 0 0) := (block_cell HP4.out.sb 1).trans rfl; have yf0 : w4.frozen? ⟨w.heap.size + 1 + 1, 0, none⟩ = false := block_free HP4.out.sb 0; have yf1 : w4.frozen? ⟨w.heap.size + 1 + 1, 1, none⟩ = false := block_free HP4.out.sb 1; clear hq4)
    | (go_at_call 37; ((with_reducible refine (HK2.out _ _ HP4.out.box).mono ?_)); rintro r w5 ⟨rfl, hq5⟩; have HP5 := hide (HP4.out.call hq5); have c1 := HP5.out.pb.c1; have c2 := HP5.out.pb.c2; have y0 : w5.cell? ⟨w.heap.size + 1 + 1, 0, none⟩ = some (.slice none 0 0) := (block_cell HP5.out.sb 0).trans rfl; have y1 : w5.cell? ⟨w.heap.size + 1 + 1, 1, none⟩ = some (.slice none 0 0) := (block_cell HP5.out.sb 1).trans rfl; have yf0 : w5.frozen? ⟨w.heap.size + 1 + 1, 0, none⟩ = false := block_free HP5.out.sb 0; have yf1 : w5.frozen? ⟨w.heap.size + 1 + 1, 1, none⟩ = false := block_free HP5.out.sb 1; have z0 : w5.cell? ⟨w.heap.size, 0, none⟩ = some (.slice none 0 0) := (block_cell HP5.out.rb 0).trans rfl; have zf0 : w5.frozen? ⟨w.heap.size, 0, none⟩ = false := block_free HP5.out.rb 0; have z1 : w5.cell? ⟨w.heap.size, 1, none⟩ = some (.slice none 0 0) := (block_cell HP5.out.rb 1).trans rfl; have zf1 : w5.frozen? ⟨w.heap.size, 1, none⟩ = false := block_free HP5.out.rb 1; clear hq5))
  go_region
  all_goals
    go_wp2_with (fail)
    have hbz := (show (((w5.setCell ⟨w.heap.size, 0, none⟩ (.slice none 0 0)).setCell ⟨w.heap.size, 1, none⟩ (.slice none 0 0))).drew.heap[w.heap.size]? = _ from block_set (block_set HP5.out.rb (i := 0) (.slice none 0 0)) (i := 1) (.slice none 0 0))
    have hbe := ((HP5.out.be.setCell (p := ⟨w.heap.size, 0, none⟩) (by simp) (.slice none 0 0)).setCell (p := ⟨w.heap.size, 1, none⟩) (by simp) (.slice none 0 0)).drew
    generalize (((w5.setCell ⟨w.heap.size, 0, none⟩ (.slice none 0 0)).setCell ⟨w.heap.size, 1, none⟩ (.slice none 0 0))).drew = wf at hbz hbe ⊢
    have r0 : wf.cell? ⟨w.heap.size, 0, none⟩ = some (.slice none 0 0) := (block_cell hbz 0).trans rfl
    have r1 : wf.cell? ⟨w.heap.size, 1, none⟩ = some (.slice none 0 0) := (block_cell hbz 1).trans rfl
    refine bodyPost_ret (by simp [results, Tryd.results15, go_sem, r0, r1]; try rfl) rfl ?_
    exact ⟨rfl, hbe⟩
set_option maxRecDepth 100000 in
set_option maxHeartbeats 16000000 in
theorem nParse_1 (s : ByteArray) (w : World) (hs : s.size ≤ 8000) (e : Nat) (hid : idL s 0 ≠ 0) (hn : pParts s (pOne s 12) (s.size + 1) [] (s.extract 0 (0 + idL s 0)) (0 + idL s 0) = .bad e) :
    Calls Tryd.prog 15 #[.string s] w fun r w' => r = .returned (.tuple #[.agg #[.slice none 0 0, .slice none 0 0], .int .i64 (e : Nat), .int .i64 8]) ∧ Below w.heap.size w w' := by
  have HP0 := hide (Ps.start w s 86)
  have h8 : decide ((8000 : Int) < (s.size : Int)) = false := by simp; omega
  obtain ⟨x, hx⟩ : ∃ x, s.extract 0 (0 + idL s 0) = x := ⟨_, rfl⟩
  obtain ⟨m0, hm0⟩ : ∃ m0, 0 + idL s 0 = m0 := ⟨_, rfl⟩
  have hm0s : m0 ≤ s.size := by rw [← hm0]; exact idL_le s 0 (Nat.zero_le _)
  have hxs : x.size ≤ 8000 := by rw [← hx]; exact ext_size _ _ _ hs
  rw [hx, hm0] at hn
  have HID := hide (show ∀ (W : World), W.heap[w.heap.size + 1]? = some (.cells #[.string s, .int .i64 (0 : Nat), .int .i64 (-1)] 86 (0, 0)) → Calls Tryd.prog 36 #[.pointer (some ⟨w.heap.size + 1, 0, none⟩)] W fun r w' => r = .returned (.string x) ∧ Pb (w.heap.size + 1) 86 s m0 (-1) W w' from fun W h => by have h1 := nIdent_onP (w.heap.size + 1) s 0 W hs (Nat.zero_le _) h; rw [idWr, if_neg hid, hx, hm0] at h1; exact h1)
  have HPR := hide (show ∀ (W : World), W.heap[w.heap.size + 1]? = some (.cells #[.string s, .int .i64 m0, .int .i64 (-1)] 86 (0, 0)) → Calls Tryd.prog 35 #[.pointer (some ⟨w.heap.size + 1, 0, none⟩), .string x, .int .i64 0] W fun r w' => ∃ (A : Option Addr) (n q : Nat), r = .returned (.slice A n q) ∧ ∃ i : Nat, i ≤ s.size ∧ Pb (w.heap.size + 1) 86 s i (e : Nat) W w' from fun W h => (nParts_of (nTys_ofP (nOneAll 12 (by decide))) (w.heap.size + 1) s x m0 0 W hs hxs hm0s (by decide) h).mono fun r w' ⟨A, n, q, h1, h2, _⟩ => ⟨A, n, q, h1, h2.bad hn⟩)
  have HK1 := hide (show ∀ (yy : Nat) (W : World), W.heap[w.heap.size + 1]? = some (.cells #[.string s, .int .i64 yy, .int .i64 (e : Nat)] 86 (0, 0)) → Calls Tryd.prog 37 #[.pointer (some ⟨w.heap.size + 1, 0, none⟩), .string ⟨#[40]⟩] W fun r w' => r = .returned (.tuple #[]) ∧ Pb (w.heap.size + 1) 86 s yy (e : Nat) W w' from fun yy W h => nTake_offP (w.heap.size + 1) s ⟨#[40]⟩ yy (e : Nat) W (by omega) (by decide) (by decide) h)
  have HIS := hide (show ∀ (yy : Nat) (W : World), W.heap[w.heap.size + 1]? = some (.cells #[.string s, .int .i64 yy, .int .i64 (e : Nat)] 86 (0, 0)) → Calls Tryd.prog 38 #[.pointer (some ⟨w.heap.size + 1, 0, none⟩), .int .u8 41] W fun r w' => r = .returned (.bool false) ∧ Pb (w.heap.size + 1) 86 s yy (e : Nat) W w' from fun yy W h => nIs_off (w.heap.size + 1) s yy (e : Nat) 41 W (by omega) h)
  have HK2 := hide (show ∀ (yy : Nat) (W : World), W.heap[w.heap.size + 1]? = some (.cells #[.string s, .int .i64 yy, .int .i64 (e : Nat)] 86 (0, 0)) → Calls Tryd.prog 37 #[.pointer (some ⟨w.heap.size + 1, 0, none⟩), .string ⟨#[41]⟩] W fun r w' => r = .returned (.tuple #[]) ∧ Pb (w.heap.size + 1) 86 s yy (e : Nat) W w' from fun yy W h => nTake_offP (w.heap.size + 1) s ⟨#[41]⟩ yy (e : Nat) W (by omega) (by decide) (by decide) h)
  have hoff : decide (((e : Nat) : Int) < 0) = false := by simp
  have hon : (0 : Int) ≤ ((e : Nat) : Int) := by omega
  clear hid hn hx hm0
  go_enter Tryd.func15, Tryd.ntmps15
  go_wp2_with (first
    | (go_at_call 36; ((with_reducible refine (HID.out _ HP0.out.box).mono ?_)); rintro r w1 ⟨rfl, hq1⟩; have HP1 := hide (HP0.out.call hq1); have c1 := HP1.out.pb.c1; have c2 := HP1.out.pb.c2; have y0 : w1.cell? ⟨w.heap.size + 1 + 1, 0, none⟩ = some (.slice none 0 0) := (block_cell HP1.out.sb 0).trans rfl; have y1 : w1.cell? ⟨w.heap.size + 1 + 1, 1, none⟩ = some (.slice none 0 0) := (block_cell HP1.out.sb 1).trans rfl; have yf0 : w1.frozen? ⟨w.heap.size + 1 + 1, 0, none⟩ = false := block_free HP1.out.sb 0; have yf1 : w1.frozen? ⟨w.heap.size + 1 + 1, 1, none⟩ = false := block_free HP1.out.sb 1; clear hq1)
    | (go_at_call 35; ((with_reducible refine (HPR.out _ HP1.out.box).mono ?_)); rintro r w2 ⟨A1, n1, q1, rfl, yn, hyn, hq2⟩; have HP2 := hide (HP1.out.call hq2); have c1 := HP2.out.pb.c1; have c2 := HP2.out.pb.c2; have y0 : w2.cell? ⟨w.heap.size + 1 + 1, 0, none⟩ = some (.slice none 0 0) := (block_cell HP2.out.sb 0).trans rfl; have y1 : w2.cell? ⟨w.heap.size + 1 + 1, 1, none⟩ = some (.slice none 0 0) := (block_cell HP2.out.sb 1).trans rfl; have yf0 : w2.frozen? ⟨w.heap.size + 1 + 1, 0, none⟩ = false := block_free HP2.out.sb 0; have yf1 : w2.frozen? ⟨w.heap.size + 1 + 1, 1, none⟩ = false := block_free HP2.out.sb 1; have HP2s := hide (HP2.out.set0 (.slice A1 n1 q1)); clear hq2)
    | (go_at_call 37; ((with_reducible refine (HK1.out _ _ HP2s.out.box).mono ?_)); rintro r w3 ⟨rfl, hq3⟩; have HP3 := hide (HP2s.out.call hq3); have c1 := HP3.out.pb.c1; have c2 := HP3.out.pb.c2; have y0 : w3.cell? ⟨w.heap.size + 1 + 1, 0, none⟩ = some (.slice A1 n1 q1) := (block_cell HP3.out.sb 0).trans rfl; have y1 : w3.cell? ⟨w.heap.size + 1 + 1, 1, none⟩ = some (.slice none 0 0) := (block_cell HP3.out.sb 1).trans rfl; have yf0 : w3.frozen? ⟨w.heap.size + 1 + 1, 0, none⟩ = false := block_free HP3.out.sb 0; have yf1 : w3.frozen? ⟨w.heap.size + 1 + 1, 1, none⟩ = false := block_free HP3.out.sb 1; clear hq3)
    | (go_at_call 38; ((with_reducible refine (HIS.out _ _ HP3.out.box).mono ?_)); rintro r w4 ⟨rfl, hq4⟩; have HP4 := hide (HP3.out.call hq4); have c1 := HP4.out.pb.c1; have c2 := HP4.out.pb.c2; have y0 : w4.cell? ⟨w.heap.size + 1 + 1, 0, none⟩ = some (.slice A1 n1 q1) := (block_cell HP4.out.sb 0).trans rfl; have y1 : w4.cell? ⟨w.heap.size + 1 + 1, 1, none⟩ = some (.slice none 0 0) := (block_cell HP4.out.sb 1).trans rfl; have yf0 : w4.frozen? ⟨w.heap.size + 1 + 1, 0, none⟩ = false := block_free HP4.out.sb 0; have yf1 : w4.frozen? ⟨w.heap.size + 1 + 1, 1, none⟩ = false := block_free HP4.out.sb 1; clear hq4)
    | (go_at_call 37; ((with_reducible refine (HK2.out _ _ HP4.out.box).mono ?_)); rintro r w5 ⟨rfl, hq5⟩; have HP5 := hide (HP4.out.call hq5); have c1 := HP5.out.pb.c1; have c2 := HP5.out.pb.c2; have y0 : w5.cell? ⟨w.heap.size + 1 + 1, 0, none⟩ = some (.slice A1 n1 q1) := (block_cell HP5.out.sb 0).trans rfl; have y1 : w5.cell? ⟨w.heap.size + 1 + 1, 1, none⟩ = some (.slice none 0 0) := (block_cell HP5.out.sb 1).trans rfl; have yf0 : w5.frozen? ⟨w.heap.size + 1 + 1, 0, none⟩ = false := block_free HP5.out.sb 0; have yf1 : w5.frozen? ⟨w.heap.size + 1 + 1, 1, none⟩ = false := block_free HP5.out.sb 1; have z0 : w5.cell? ⟨w.heap.size, 0, none⟩ = some (.slice none 0 0) := (block_cell HP5.out.rb 0).trans rfl; have zf0 : w5.frozen? ⟨w.heap.size, 0, none⟩ = false := block_free HP5.out.rb 0; have z1 : w5.cell? ⟨w.heap.size, 1, none⟩ = some (.slice none 0 0) := (block_cell HP5.out.rb 1).trans rfl; have zf1 : w5.frozen? ⟨w.heap.size, 1, none⟩ = false := block_free HP5.out.rb 1; clear hq5))
  go_region
  all_goals
    go_wp2_with (fail)
    have hbz := (show (((w5.setCell ⟨w.heap.size, 0, none⟩ (.slice none 0 0)).setCell ⟨w.heap.size, 1, none⟩ (.slice none 0 0))).drew.heap[w.heap.size]? = _ from block_set (block_set HP5.out.rb (i := 0) (.slice none 0 0)) (i := 1) (.slice none 0 0))
    have hbe := ((HP5.out.be.setCell (p := ⟨w.heap.size, 0, none⟩) (by simp) (.slice none 0 0)).setCell (p := ⟨w.heap.size, 1, none⟩) (by simp) (.slice none 0 0)).drew
    generalize (((w5.setCell ⟨w.heap.size, 0, none⟩ (.slice none 0 0)).setCell ⟨w.heap.size, 1, none⟩ (.slice none 0 0))).drew = wf at hbz hbe ⊢
    have r0 : wf.cell? ⟨w.heap.size, 0, none⟩ = some (.slice none 0 0) := (block_cell hbz 0).trans rfl
    have r1 : wf.cell? ⟨w.heap.size, 1, none⟩ = some (.slice none 0 0) := (block_cell hbz 1).trans rfl
    refine bodyPost_ret (by simp [results, Tryd.results15, go_sem, r0, r1]; try rfl) rfl ?_
    exact ⟨rfl, hbe⟩
set_option maxRecDepth 100000 in
set_option maxHeartbeats 16000000 in
theorem nParse_2 (s : ByteArray) (w : World) (hs : s.size ≤ 8000) (i : Nat) (a : List Part) (his : i ≤ s.size) (hid : idL s 0 ≠ 0) (hn : pParts s (pOne s 12) (s.size + 1) [] (s.extract 0 (0 + idL s 0)) (0 + idL s 0) = .ok i a) (e : Nat) (hk : needB s [40] i = .bad e) :
    Calls Tryd.prog 15 #[.string s] w fun r w' => r = .returned (.tuple #[.agg #[.slice none 0 0, .slice none 0 0], .int .i64 (e : Nat), .int .i64 8]) ∧ Below w.heap.size w w' := by
  have HP0 := hide (Ps.start w s 86)
  have h8 : decide ((8000 : Int) < (s.size : Int)) = false := by simp; omega
  obtain ⟨x, hx⟩ : ∃ x, s.extract 0 (0 + idL s 0) = x := ⟨_, rfl⟩
  obtain ⟨m0, hm0⟩ : ∃ m0, 0 + idL s 0 = m0 := ⟨_, rfl⟩
  have hm0s : m0 ≤ s.size := by rw [← hm0]; exact idL_le s 0 (Nat.zero_le _)
  have hxs : x.size ≤ 8000 := by rw [← hx]; exact ext_size _ _ _ hs
  rw [hx, hm0] at hn
  have HID := hide (show ∀ (W : World), W.heap[w.heap.size + 1]? = some (.cells #[.string s, .int .i64 (0 : Nat), .int .i64 (-1)] 86 (0, 0)) → Calls Tryd.prog 36 #[.pointer (some ⟨w.heap.size + 1, 0, none⟩)] W fun r w' => r = .returned (.string x) ∧ Pb (w.heap.size + 1) 86 s m0 (-1) W w' from fun W h => by have h1 := nIdent_onP (w.heap.size + 1) s 0 W hs (Nat.zero_le _) h; rw [idWr, if_neg hid, hx, hm0] at h1; exact h1)
  have HPR := hide (show ∀ (W : World), W.heap[w.heap.size + 1]? = some (.cells #[.string s, .int .i64 m0, .int .i64 (-1)] 86 (0, 0)) → Calls Tryd.prog 35 #[.pointer (some ⟨w.heap.size + 1, 0, none⟩), .string x, .int .i64 0] W fun r w' => ∃ (A : Option Addr) (n q : Nat), r = .returned (.slice A n q) ∧ Pb (w.heap.size + 1) 86 s i (-1) W w' ∧ PartsNew 12 W w' A n q a from fun W h => (nParts_of (nTys_ofP (nOneAll 12 (by decide))) (w.heap.size + 1) s x m0 0 W hs hxs hm0s (by decide) h).mono fun r w' ⟨A, n, q, h1, h2, h3⟩ => ⟨A, n, q, h1, h2.ok hn, h3 _ _ hn⟩)
  have HK1 := hide (show ∀ (W : World), W.heap[w.heap.size + 1]? = some (.cells #[.string s, .int .i64 i, .int .i64 (-1)] 86 (0, 0)) → Calls Tryd.prog 37 #[.pointer (some ⟨w.heap.size + 1, 0, none⟩), .string ⟨#[40]⟩] W fun r w' => r = .returned (.tuple #[]) ∧ ∃ i : Nat, i ≤ s.size ∧ Pb (w.heap.size + 1) 86 s i (e : Nat) W w' from fun W h => (nTake_on (w.heap.size + 1) s ⟨#[40]⟩ i W hs (by decide) his h).mono fun r w' ⟨h1, h2⟩ => ⟨h1, h2.bad hk⟩)
  have HIS := hide (show ∀ (yy : Nat) (W : World), W.heap[w.heap.size + 1]? = some (.cells #[.string s, .int .i64 yy, .int .i64 (e : Nat)] 86 (0, 0)) → Calls Tryd.prog 38 #[.pointer (some ⟨w.heap.size + 1, 0, none⟩), .int .u8 41] W fun r w' => r = .returned (.bool false) ∧ Pb (w.heap.size + 1) 86 s yy (e : Nat) W w' from fun yy W h => nIs_off (w.heap.size + 1) s yy (e : Nat) 41 W (by omega) h)
  have HK2 := hide (show ∀ (yy : Nat) (W : World), W.heap[w.heap.size + 1]? = some (.cells #[.string s, .int .i64 yy, .int .i64 (e : Nat)] 86 (0, 0)) → Calls Tryd.prog 37 #[.pointer (some ⟨w.heap.size + 1, 0, none⟩), .string ⟨#[41]⟩] W fun r w' => r = .returned (.tuple #[]) ∧ Pb (w.heap.size + 1) 86 s yy (e : Nat) W w' from fun yy W h => nTake_offP (w.heap.size + 1) s ⟨#[41]⟩ yy (e : Nat) W (by omega) (by decide) (by decide) h)
  have hoff : decide (((e : Nat) : Int) < 0) = false := by simp
  have hon : (0 : Int) ≤ ((e : Nat) : Int) := by omega
  clear hid hn hx hm0 hk
  go_enter Tryd.func15, Tryd.ntmps15
  go_wp2_with (first
    | (go_at_call 36; ((with_reducible refine (HID.out _ HP0.out.box).mono ?_)); rintro r w1 ⟨rfl, hq1⟩; have HP1 := hide (HP0.out.call hq1); have c1 := HP1.out.pb.c1; have c2 := HP1.out.pb.c2; have y0 : w1.cell? ⟨w.heap.size + 1 + 1, 0, none⟩ = some (.slice none 0 0) := (block_cell HP1.out.sb 0).trans rfl; have y1 : w1.cell? ⟨w.heap.size + 1 + 1, 1, none⟩ = some (.slice none 0 0) := (block_cell HP1.out.sb 1).trans rfl; have yf0 : w1.frozen? ⟨w.heap.size + 1 + 1, 0, none⟩ = false := block_free HP1.out.sb 0; have yf1 : w1.frozen? ⟨w.heap.size + 1 + 1, 1, none⟩ = false := block_free HP1.out.sb 1; clear hq1)
    | (go_at_call 35; ((with_reducible refine (HPR.out _ HP1.out.box).mono ?_)); rintro r w2 ⟨A1, n1, q1, rfl, hq2, hpn⟩; have HP2 := hide (HP1.out.call hq2); have HTN := hide (NmS.of hpn HP1.out.lt); clear hpn; have c1 := HP2.out.pb.c1; have c2 := HP2.out.pb.c2; have y0 : w2.cell? ⟨w.heap.size + 1 + 1, 0, none⟩ = some (.slice none 0 0) := (block_cell HP2.out.sb 0).trans rfl; have y1 : w2.cell? ⟨w.heap.size + 1 + 1, 1, none⟩ = some (.slice none 0 0) := (block_cell HP2.out.sb 1).trans rfl; have yf0 : w2.frozen? ⟨w.heap.size + 1 + 1, 0, none⟩ = false := block_free HP2.out.sb 0; have yf1 : w2.frozen? ⟨w.heap.size + 1 + 1, 1, none⟩ = false := block_free HP2.out.sb 1; have HP2s := hide (HP2.out.set0 (.slice A1 n1 q1)); have HTNs := hide (HTN.out.stay (stay_s w w2 0 (.slice A1 n1 q1))); clear hq2)
    | (go_at_call 37; ((with_reducible refine (HK1.out _ HP2s.out.box).mono ?_)); rintro r w3 ⟨rfl, yk, hyk, hq3⟩; have HP3 := hide (HP2s.out.call hq3); have HTnm3 := hide (HTNs.out.stay (stay_call hq3)); have c1 := HP3.out.pb.c1; have c2 := HP3.out.pb.c2; have y0 : w3.cell? ⟨w.heap.size + 1 + 1, 0, none⟩ = some (.slice A1 n1 q1) := (block_cell HP3.out.sb 0).trans rfl; have y1 : w3.cell? ⟨w.heap.size + 1 + 1, 1, none⟩ = some (.slice none 0 0) := (block_cell HP3.out.sb 1).trans rfl; have yf0 : w3.frozen? ⟨w.heap.size + 1 + 1, 0, none⟩ = false := block_free HP3.out.sb 0; have yf1 : w3.frozen? ⟨w.heap.size + 1 + 1, 1, none⟩ = false := block_free HP3.out.sb 1; clear hq3)
    | (go_at_call 38; ((with_reducible refine (HIS.out _ _ HP3.out.box).mono ?_)); rintro r w4 ⟨rfl, hq4⟩; have HP4 := hide (HP3.out.call hq4); have HTnm4 := hide (HTnm3.out.stay (stay_call hq4)); have c1 := HP4.out.pb.c1; have c2 := HP4.out.pb.c2; have y0 : w4.cell? ⟨w.heap.size + 1 + 1, 0, none⟩ = some (.slice A1 n1 q1) := (block_cell HP4.out.sb 0).trans rfl; have y1 : w4.cell? ⟨w.heap.size + 1 + 1, 1, none⟩ = some (.slice none 0 0) := (block_cell HP4.out.sb 1).trans rfl; have yf0 : w4.frozen? ⟨w.heap.size + 1 + 1, 0, none⟩ = false := block_free HP4.out.sb 0; have yf1 : w4.frozen? ⟨w.heap.size + 1 + 1, 1, none⟩ = false := block_free HP4.out.sb 1; clear hq4)
    | (go_at_call 37; ((with_reducible refine (HK2.out _ _ HP4.out.box).mono ?_)); rintro r w5 ⟨rfl, hq5⟩; have HP5 := hide (HP4.out.call hq5); have HTnm5 := hide (HTnm4.out.stay (stay_call hq5)); have c1 := HP5.out.pb.c1; have c2 := HP5.out.pb.c2; have y0 : w5.cell? ⟨w.heap.size + 1 + 1, 0, none⟩ = some (.slice A1 n1 q1) := (block_cell HP5.out.sb 0).trans rfl; have y1 : w5.cell? ⟨w.heap.size + 1 + 1, 1, none⟩ = some (.slice none 0 0) := (block_cell HP5.out.sb 1).trans rfl; have yf0 : w5.frozen? ⟨w.heap.size + 1 + 1, 0, none⟩ = false := block_free HP5.out.sb 0; have yf1 : w5.frozen? ⟨w.heap.size + 1 + 1, 1, none⟩ = false := block_free HP5.out.sb 1; have z0 : w5.cell? ⟨w.heap.size, 0, none⟩ = some (.slice none 0 0) := (block_cell HP5.out.rb 0).trans rfl; have zf0 : w5.frozen? ⟨w.heap.size, 0, none⟩ = false := block_free HP5.out.rb 0; have z1 : w5.cell? ⟨w.heap.size, 1, none⟩ = some (.slice none 0 0) := (block_cell HP5.out.rb 1).trans rfl; have zf1 : w5.frozen? ⟨w.heap.size, 1, none⟩ = false := block_free HP5.out.rb 1; clear hq5))
  go_region
  all_goals
    go_wp2_with (fail)
    have hbz := (show (((w5.setCell ⟨w.heap.size, 0, none⟩ (.slice none 0 0)).setCell ⟨w.heap.size, 1, none⟩ (.slice none 0 0))).drew.heap[w.heap.size]? = _ from block_set (block_set HP5.out.rb (i := 0) (.slice none 0 0)) (i := 1) (.slice none 0 0))
    have hbe := ((HP5.out.be.setCell (p := ⟨w.heap.size, 0, none⟩) (by simp) (.slice none 0 0)).setCell (p := ⟨w.heap.size, 1, none⟩) (by simp) (.slice none 0 0)).drew
    generalize (((w5.setCell ⟨w.heap.size, 0, none⟩ (.slice none 0 0)).setCell ⟨w.heap.size, 1, none⟩ (.slice none 0 0))).drew = wf at hbz hbe ⊢
    have r0 : wf.cell? ⟨w.heap.size, 0, none⟩ = some (.slice none 0 0) := (block_cell hbz 0).trans rfl
    have r1 : wf.cell? ⟨w.heap.size, 1, none⟩ = some (.slice none 0 0) := (block_cell hbz 1).trans rfl
    refine bodyPost_ret (by simp [results, Tryd.results15, go_sem, r0, r1]; try rfl) rfl ?_
    exact ⟨rfl, hbe⟩
set_option maxRecDepth 100000 in
set_option maxHeartbeats 16000000 in
theorem nParse_3 (s : ByteArray) (w : World) (hs : s.size ≤ 8000) (i : Nat) (a : List Part) (his : i ≤ s.size) (hid : idL s 0 ≠ 0) (hn : pParts s (pOne s 12) (s.size + 1) [] (s.extract 0 (0 + idL s 0)) (0 + idL s 0) = .ok i a) (j : Nat) (u : Unit) (hjs : j ≤ s.size) (hk : needB s [40] i = .ok j u) (hv : isB s j 41 = false) (e : Nat) (ht : pTys s (pOne s 12) (s.size + 1) [] j = .bad e) :
    Calls Tryd.prog 15 #[.string s] w fun r w' => r = .returned (.tuple #[.agg #[.slice none 0 0, .slice none 0 0], .int .i64 (e : Nat), .int .i64 8]) ∧ Below w.heap.size w w' := by
  have HP0 := hide (Ps.start w s 86)
  have h8 : decide ((8000 : Int) < (s.size : Int)) = false := by simp; omega
  obtain ⟨x, hx⟩ : ∃ x, s.extract 0 (0 + idL s 0) = x := ⟨_, rfl⟩
  obtain ⟨m0, hm0⟩ : ∃ m0, 0 + idL s 0 = m0 := ⟨_, rfl⟩
  have hm0s : m0 ≤ s.size := by rw [← hm0]; exact idL_le s 0 (Nat.zero_le _)
  have hxs : x.size ≤ 8000 := by rw [← hx]; exact ext_size _ _ _ hs
  rw [hx, hm0] at hn
  have HID := hide (show ∀ (W : World), W.heap[w.heap.size + 1]? = some (.cells #[.string s, .int .i64 (0 : Nat), .int .i64 (-1)] 86 (0, 0)) → Calls Tryd.prog 36 #[.pointer (some ⟨w.heap.size + 1, 0, none⟩)] W fun r w' => r = .returned (.string x) ∧ Pb (w.heap.size + 1) 86 s m0 (-1) W w' from fun W h => by have h1 := nIdent_onP (w.heap.size + 1) s 0 W hs (Nat.zero_le _) h; rw [idWr, if_neg hid, hx, hm0] at h1; exact h1)
  have HPR := hide (show ∀ (W : World), W.heap[w.heap.size + 1]? = some (.cells #[.string s, .int .i64 m0, .int .i64 (-1)] 86 (0, 0)) → Calls Tryd.prog 35 #[.pointer (some ⟨w.heap.size + 1, 0, none⟩), .string x, .int .i64 0] W fun r w' => ∃ (A : Option Addr) (n q : Nat), r = .returned (.slice A n q) ∧ Pb (w.heap.size + 1) 86 s i (-1) W w' ∧ PartsNew 12 W w' A n q a from fun W h => (nParts_of (nTys_ofP (nOneAll 12 (by decide))) (w.heap.size + 1) s x m0 0 W hs hxs hm0s (by decide) h).mono fun r w' ⟨A, n, q, h1, h2, h3⟩ => ⟨A, n, q, h1, h2.ok hn, h3 _ _ hn⟩)
  have HK1 := hide (show ∀ (W : World), W.heap[w.heap.size + 1]? = some (.cells #[.string s, .int .i64 i, .int .i64 (-1)] 86 (0, 0)) → Calls Tryd.prog 37 #[.pointer (some ⟨w.heap.size + 1, 0, none⟩), .string ⟨#[40]⟩] W fun r w' => r = .returned (.tuple #[]) ∧ Pb (w.heap.size + 1) 86 s j (-1) W w' from fun W h => (nTake_on (w.heap.size + 1) s ⟨#[40]⟩ i W hs (by decide) his h).mono fun r w' ⟨h1, h2⟩ => ⟨h1, h2.ok hk⟩)
  have HIS := hide (show ∀ (W : World), W.heap[w.heap.size + 1]? = some (.cells #[.string s, .int .i64 j, .int .i64 (-1)] 86 (0, 0)) → Calls Tryd.prog 38 #[.pointer (some ⟨w.heap.size + 1, 0, none⟩), .int .u8 41] W fun r w' => r = .returned (.bool false) ∧ Pb (w.heap.size + 1) 86 s j (-1) W w' from fun W h => nIs_no (w.heap.size + 1) s j 41 W hs hjs hv h)
  have HTC := hide (show ∀ (W : World), W.heap[w.heap.size + 1]? = some (.cells #[.string s, .int .i64 j, .int .i64 (-1)] 86 (0, 0)) → Calls Tryd.prog 39 #[.pointer (some ⟨w.heap.size + 1, 0, none⟩), .int .i64 0] W fun r w' => ∃ (A : Option Addr) (n q : Nat), r = .returned (.slice A n q) ∧ ∃ i : Nat, i ≤ s.size ∧ Pb (w.heap.size + 1) 86 s i (e : Nat) W w' from fun W h => (nTys_ofP (nOneAll 12 (by decide)) (w.heap.size + 1) s j 0 W hs hjs (by decide) h).mono fun r w' ⟨A, n, q, h1, _, _, h2, _⟩ => ⟨A, n, q, h1, h2.bad ht⟩)
  have HK2 := hide (show ∀ (yy : Nat) (W : World), W.heap[w.heap.size + 1]? = some (.cells #[.string s, .int .i64 yy, .int .i64 (e : Nat)] 86 (0, 0)) → Calls Tryd.prog 37 #[.pointer (some ⟨w.heap.size + 1, 0, none⟩), .string ⟨#[41]⟩] W fun r w' => r = .returned (.tuple #[]) ∧ Pb (w.heap.size + 1) 86 s yy (e : Nat) W w' from fun yy W h => nTake_offP (w.heap.size + 1) s ⟨#[41]⟩ yy (e : Nat) W (by omega) (by decide) (by decide) h)
  have hoff : decide (((e : Nat) : Int) < 0) = false := by simp
  have hon : (0 : Int) ≤ ((e : Nat) : Int) := by omega
  clear hid hn hx hm0 hk hv ht
  go_enter Tryd.func15, Tryd.ntmps15
  go_wp2_with (first
    | (go_at_call 36; ((with_reducible refine (HID.out _ HP0.out.box).mono ?_)); rintro r w1 ⟨rfl, hq1⟩; have HP1 := hide (HP0.out.call hq1); have c1 := HP1.out.pb.c1; have c2 := HP1.out.pb.c2; have y0 : w1.cell? ⟨w.heap.size + 1 + 1, 0, none⟩ = some (.slice none 0 0) := (block_cell HP1.out.sb 0).trans rfl; have y1 : w1.cell? ⟨w.heap.size + 1 + 1, 1, none⟩ = some (.slice none 0 0) := (block_cell HP1.out.sb 1).trans rfl; have yf0 : w1.frozen? ⟨w.heap.size + 1 + 1, 0, none⟩ = false := block_free HP1.out.sb 0; have yf1 : w1.frozen? ⟨w.heap.size + 1 + 1, 1, none⟩ = false := block_free HP1.out.sb 1; clear hq1)
    | (go_at_call 35; ((with_reducible refine (HPR.out _ HP1.out.box).mono ?_)); rintro r w2 ⟨A1, n1, q1, rfl, hq2, hpn⟩; have HP2 := hide (HP1.out.call hq2); have HTN := hide (NmS.of hpn HP1.out.lt); clear hpn; have c1 := HP2.out.pb.c1; have c2 := HP2.out.pb.c2; have y0 : w2.cell? ⟨w.heap.size + 1 + 1, 0, none⟩ = some (.slice none 0 0) := (block_cell HP2.out.sb 0).trans rfl; have y1 : w2.cell? ⟨w.heap.size + 1 + 1, 1, none⟩ = some (.slice none 0 0) := (block_cell HP2.out.sb 1).trans rfl; have yf0 : w2.frozen? ⟨w.heap.size + 1 + 1, 0, none⟩ = false := block_free HP2.out.sb 0; have yf1 : w2.frozen? ⟨w.heap.size + 1 + 1, 1, none⟩ = false := block_free HP2.out.sb 1; have HP2s := hide (HP2.out.set0 (.slice A1 n1 q1)); have HTNs := hide (HTN.out.stay (stay_s w w2 0 (.slice A1 n1 q1))); clear hq2)
    | (go_at_call 37; ((with_reducible refine (HK1.out _ HP2s.out.box).mono ?_)); rintro r w3 ⟨rfl, hq3⟩; have HP3 := hide (HP2s.out.call hq3); have HTnm3 := hide (HTNs.out.stay (stay_call hq3)); have c1 := HP3.out.pb.c1; have c2 := HP3.out.pb.c2; have y0 : w3.cell? ⟨w.heap.size + 1 + 1, 0, none⟩ = some (.slice A1 n1 q1) := (block_cell HP3.out.sb 0).trans rfl; have y1 : w3.cell? ⟨w.heap.size + 1 + 1, 1, none⟩ = some (.slice none 0 0) := (block_cell HP3.out.sb 1).trans rfl; have yf0 : w3.frozen? ⟨w.heap.size + 1 + 1, 0, none⟩ = false := block_free HP3.out.sb 0; have yf1 : w3.frozen? ⟨w.heap.size + 1 + 1, 1, none⟩ = false := block_free HP3.out.sb 1; clear hq3)
    | (go_at_call 38; ((with_reducible refine (HIS.out _ HP3.out.box).mono ?_)); rintro r w4 ⟨rfl, hq4⟩; have HP4 := hide (HP3.out.call hq4); have HTnm4 := hide (HTnm3.out.stay (stay_call hq4)); have c1 := HP4.out.pb.c1; have c2 := HP4.out.pb.c2; have y0 : w4.cell? ⟨w.heap.size + 1 + 1, 0, none⟩ = some (.slice A1 n1 q1) := (block_cell HP4.out.sb 0).trans rfl; have y1 : w4.cell? ⟨w.heap.size + 1 + 1, 1, none⟩ = some (.slice none 0 0) := (block_cell HP4.out.sb 1).trans rfl; have yf0 : w4.frozen? ⟨w.heap.size + 1 + 1, 0, none⟩ = false := block_free HP4.out.sb 0; have yf1 : w4.frozen? ⟨w.heap.size + 1 + 1, 1, none⟩ = false := block_free HP4.out.sb 1; clear hq4)
    | (go_at_call 39; ((with_reducible refine (HTC.out _ HP4.out.box).mono ?_)); rintro r w5 ⟨A2, n2, q2, rfl, yt, hyt, hq5⟩; have HP5 := hide (HP4.out.call hq5); have HTnm5 := hide (HTnm4.out.stay (stay_call hq5)); have c1 := HP5.out.pb.c1; have c2 := HP5.out.pb.c2; have y0 : w5.cell? ⟨w.heap.size + 1 + 1, 0, none⟩ = some (.slice A1 n1 q1) := (block_cell HP5.out.sb 0).trans rfl; have y1 : w5.cell? ⟨w.heap.size + 1 + 1, 1, none⟩ = some (.slice none 0 0) := (block_cell HP5.out.sb 1).trans rfl; have yf0 : w5.frozen? ⟨w.heap.size + 1 + 1, 0, none⟩ = false := block_free HP5.out.sb 0; have yf1 : w5.frozen? ⟨w.heap.size + 1 + 1, 1, none⟩ = false := block_free HP5.out.sb 1; have HP5s := hide (HP5.out.set1 (.slice A2 n2 q2)); have HTnm5s := hide (HTnm5.out.stay (stay_s w w5 1 (.slice A2 n2 q2))); clear hq5)
    | (go_at_call 37; ((with_reducible refine (HK2.out _ _ HP5s.out.box).mono ?_)); rintro r w6 ⟨rfl, hq6⟩; have HP6 := hide (HP5s.out.call hq6); have HTnm6 := hide (HTnm5s.out.stay (stay_call hq6)); have c1 := HP6.out.pb.c1; have c2 := HP6.out.pb.c2; have y0 : w6.cell? ⟨w.heap.size + 1 + 1, 0, none⟩ = some (.slice A1 n1 q1) := (block_cell HP6.out.sb 0).trans rfl; have y1 : w6.cell? ⟨w.heap.size + 1 + 1, 1, none⟩ = some (.slice A2 n2 q2) := (block_cell HP6.out.sb 1).trans rfl; have yf0 : w6.frozen? ⟨w.heap.size + 1 + 1, 0, none⟩ = false := block_free HP6.out.sb 0; have yf1 : w6.frozen? ⟨w.heap.size + 1 + 1, 1, none⟩ = false := block_free HP6.out.sb 1; have z0 : w6.cell? ⟨w.heap.size, 0, none⟩ = some (.slice none 0 0) := (block_cell HP6.out.rb 0).trans rfl; have zf0 : w6.frozen? ⟨w.heap.size, 0, none⟩ = false := block_free HP6.out.rb 0; have z1 : w6.cell? ⟨w.heap.size, 1, none⟩ = some (.slice none 0 0) := (block_cell HP6.out.rb 1).trans rfl; have zf1 : w6.frozen? ⟨w.heap.size, 1, none⟩ = false := block_free HP6.out.rb 1; clear hq6))
  go_region
  all_goals
    go_wp2_with (fail)
    have hbz := (show (((w6.setCell ⟨w.heap.size, 0, none⟩ (.slice none 0 0)).setCell ⟨w.heap.size, 1, none⟩ (.slice none 0 0))).drew.heap[w.heap.size]? = _ from block_set (block_set HP6.out.rb (i := 0) (.slice none 0 0)) (i := 1) (.slice none 0 0))
    have hbe := ((HP6.out.be.setCell (p := ⟨w.heap.size, 0, none⟩) (by simp) (.slice none 0 0)).setCell (p := ⟨w.heap.size, 1, none⟩) (by simp) (.slice none 0 0)).drew
    generalize (((w6.setCell ⟨w.heap.size, 0, none⟩ (.slice none 0 0)).setCell ⟨w.heap.size, 1, none⟩ (.slice none 0 0))).drew = wf at hbz hbe ⊢
    have r0 : wf.cell? ⟨w.heap.size, 0, none⟩ = some (.slice none 0 0) := (block_cell hbz 0).trans rfl
    have r1 : wf.cell? ⟨w.heap.size, 1, none⟩ = some (.slice none 0 0) := (block_cell hbz 1).trans rfl
    refine bodyPost_ret (by simp [results, Tryd.results15, go_sem, r0, r1]; try rfl) rfl ?_
    exact ⟨rfl, hbe⟩
set_option maxRecDepth 100000 in
set_option maxHeartbeats 16000000 in
theorem nParse_5y (s : ByteArray) (w : World) (hs : s.size ≤ 8000) (i : Nat) (a : List Part) (his : i ≤ s.size) (hid : idL s 0 ≠ 0) (hn : pParts s (pOne s 12) (s.size + 1) [] (s.extract 0 (0 + idL s 0)) (0 + idL s 0) = .ok i a) (j : Nat) (u : Unit) (hjs : j ≤ s.size) (hk : needB s [40] i = .ok j u) (hv : isB s j 41 = true) (m : Nat) (u2 : Unit) (hm2 : m ≤ s.size) (hk2 : needB s [41] j = .ok m u2) (hlt : m < s.size) :
    Calls Tryd.prog 15 #[.string s] w fun r w' => r = .returned (.tuple #[.agg #[.slice none 0 0, .slice none 0 0], .int .i64 (m : Nat), .int .i64 8]) ∧ Below w.heap.size w w' := by
  have HP0 := hide (Ps.start w s 86)
  have h8 : decide ((8000 : Int) < (s.size : Int)) = false := by simp; omega
  obtain ⟨x, hx⟩ : ∃ x, s.extract 0 (0 + idL s 0) = x := ⟨_, rfl⟩
  obtain ⟨m0, hm0⟩ : ∃ m0, 0 + idL s 0 = m0 := ⟨_, rfl⟩
  have hm0s : m0 ≤ s.size := by rw [← hm0]; exact idL_le s 0 (Nat.zero_le _)
  have hxs : x.size ≤ 8000 := by rw [← hx]; exact ext_size _ _ _ hs
  rw [hx, hm0] at hn
  have HID := hide (show ∀ (W : World), W.heap[w.heap.size + 1]? = some (.cells #[.string s, .int .i64 (0 : Nat), .int .i64 (-1)] 86 (0, 0)) → Calls Tryd.prog 36 #[.pointer (some ⟨w.heap.size + 1, 0, none⟩)] W fun r w' => r = .returned (.string x) ∧ Pb (w.heap.size + 1) 86 s m0 (-1) W w' from fun W h => by have h1 := nIdent_onP (w.heap.size + 1) s 0 W hs (Nat.zero_le _) h; rw [idWr, if_neg hid, hx, hm0] at h1; exact h1)
  have HPR := hide (show ∀ (W : World), W.heap[w.heap.size + 1]? = some (.cells #[.string s, .int .i64 m0, .int .i64 (-1)] 86 (0, 0)) → Calls Tryd.prog 35 #[.pointer (some ⟨w.heap.size + 1, 0, none⟩), .string x, .int .i64 0] W fun r w' => ∃ (A : Option Addr) (n q : Nat), r = .returned (.slice A n q) ∧ Pb (w.heap.size + 1) 86 s i (-1) W w' ∧ PartsNew 12 W w' A n q a from fun W h => (nParts_of (nTys_ofP (nOneAll 12 (by decide))) (w.heap.size + 1) s x m0 0 W hs hxs hm0s (by decide) h).mono fun r w' ⟨A, n, q, h1, h2, h3⟩ => ⟨A, n, q, h1, h2.ok hn, h3 _ _ hn⟩)
  have HK1 := hide (show ∀ (W : World), W.heap[w.heap.size + 1]? = some (.cells #[.string s, .int .i64 i, .int .i64 (-1)] 86 (0, 0)) → Calls Tryd.prog 37 #[.pointer (some ⟨w.heap.size + 1, 0, none⟩), .string ⟨#[40]⟩] W fun r w' => r = .returned (.tuple #[]) ∧ Pb (w.heap.size + 1) 86 s j (-1) W w' from fun W h => (nTake_on (w.heap.size + 1) s ⟨#[40]⟩ i W hs (by decide) his h).mono fun r w' ⟨h1, h2⟩ => ⟨h1, h2.ok hk⟩)
  have HIS := hide (show ∀ (W : World), W.heap[w.heap.size + 1]? = some (.cells #[.string s, .int .i64 j, .int .i64 (-1)] 86 (0, 0)) → Calls Tryd.prog 38 #[.pointer (some ⟨w.heap.size + 1, 0, none⟩), .int .u8 41] W fun r w' => r = .returned (.bool true) ∧ Pb (w.heap.size + 1) 86 s j (-1) W w' from fun W h => nIs_yes (w.heap.size + 1) s j 41 W hs hjs hv h)
  have HK2 := hide (show ∀ (W : World), W.heap[w.heap.size + 1]? = some (.cells #[.string s, .int .i64 j, .int .i64 (-1)] 86 (0, 0)) → Calls Tryd.prog 37 #[.pointer (some ⟨w.heap.size + 1, 0, none⟩), .string ⟨#[41]⟩] W fun r w' => r = .returned (.tuple #[]) ∧ Pb (w.heap.size + 1) 86 s m (-1) W w' from fun W h => (nTake_on (w.heap.size + 1) s ⟨#[41]⟩ j W hs (by decide) hjs h).mono fun r w' ⟨h1, h2⟩ => ⟨h1, h2.ok hk2⟩)
  have HF := hide (show ∀ (W : World), W.heap[w.heap.size + 1]? = some (.cells #[.string s, .int .i64 m, .int .i64 (-1)] 86 (0, 0)) → Calls Tryd.prog 40 #[.pointer (some ⟨w.heap.size + 1, 0, none⟩), .int .i64 m] W fun r w' => r = .returned (.tuple #[]) ∧ Pb (w.heap.size + 1) 86 s m m W w' from fun W h => nFail_newP (w.heap.size + 1) s m m W h)
  have hoff : decide (((m : Nat) : Int) < 0) = false := by first | (simp; done) | (simp; omega)
  have hon : (0 : Int) ≤ ((m : Nat) : Int) := by omega
  have hlti : ((m : Nat) : Int) < (s.size : Int) := by omega
  clear hid hn hx hm0 hk hv hk2
  go_enter Tryd.func15, Tryd.ntmps15
  go_wp2_with (first
    | (go_at_call 36; ((with_reducible refine (HID.out _ HP0.out.box).mono ?_)); rintro r w1 ⟨rfl, hq1⟩; have HP1 := hide (HP0.out.call hq1); have c1 := HP1.out.pb.c1; have c2 := HP1.out.pb.c2; have y0 : w1.cell? ⟨w.heap.size + 1 + 1, 0, none⟩ = some (.slice none 0 0) := (block_cell HP1.out.sb 0).trans rfl; have y1 : w1.cell? ⟨w.heap.size + 1 + 1, 1, none⟩ = some (.slice none 0 0) := (block_cell HP1.out.sb 1).trans rfl; have yf0 : w1.frozen? ⟨w.heap.size + 1 + 1, 0, none⟩ = false := block_free HP1.out.sb 0; have yf1 : w1.frozen? ⟨w.heap.size + 1 + 1, 1, none⟩ = false := block_free HP1.out.sb 1; clear hq1)
    | (go_at_call 35; ((with_reducible refine (HPR.out _ HP1.out.box).mono ?_)); rintro r w2 ⟨A1, n1, q1, rfl, hq2, hpn⟩; have HP2 := hide (HP1.out.call hq2); have HTN := hide (NmS.of hpn HP1.out.lt); clear hpn; have c1 := HP2.out.pb.c1; have c2 := HP2.out.pb.c2; have y0 : w2.cell? ⟨w.heap.size + 1 + 1, 0, none⟩ = some (.slice none 0 0) := (block_cell HP2.out.sb 0).trans rfl; have y1 : w2.cell? ⟨w.heap.size + 1 + 1, 1, none⟩ = some (.slice none 0 0) := (block_cell HP2.out.sb 1).trans rfl; have yf0 : w2.frozen? ⟨w.heap.size + 1 + 1, 0, none⟩ = false := block_free HP2.out.sb 0; have yf1 : w2.frozen? ⟨w.heap.size + 1 + 1, 1, none⟩ = false := block_free HP2.out.sb 1; have HP2s := hide (HP2.out.set0 (.slice A1 n1 q1)); have HTNs := hide (HTN.out.stay (stay_s w w2 0 (.slice A1 n1 q1))); clear hq2)
    | (go_at_call 37; ((with_reducible refine (HK1.out _ HP2s.out.box).mono ?_)); rintro r w3 ⟨rfl, hq3⟩; have HP3 := hide (HP2s.out.call hq3); have HTnm3 := hide (HTNs.out.stay (stay_call hq3)); have c1 := HP3.out.pb.c1; have c2 := HP3.out.pb.c2; have y0 : w3.cell? ⟨w.heap.size + 1 + 1, 0, none⟩ = some (.slice A1 n1 q1) := (block_cell HP3.out.sb 0).trans rfl; have y1 : w3.cell? ⟨w.heap.size + 1 + 1, 1, none⟩ = some (.slice none 0 0) := (block_cell HP3.out.sb 1).trans rfl; have yf0 : w3.frozen? ⟨w.heap.size + 1 + 1, 0, none⟩ = false := block_free HP3.out.sb 0; have yf1 : w3.frozen? ⟨w.heap.size + 1 + 1, 1, none⟩ = false := block_free HP3.out.sb 1; clear hq3)
    | (go_at_call 38; ((with_reducible refine (HIS.out _ HP3.out.box).mono ?_)); rintro r w4 ⟨rfl, hq4⟩; have HP4 := hide (HP3.out.call hq4); have HTnm4 := hide (HTnm3.out.stay (stay_call hq4)); have c1 := HP4.out.pb.c1; have c2 := HP4.out.pb.c2; have y0 : w4.cell? ⟨w.heap.size + 1 + 1, 0, none⟩ = some (.slice A1 n1 q1) := (block_cell HP4.out.sb 0).trans rfl; have y1 : w4.cell? ⟨w.heap.size + 1 + 1, 1, none⟩ = some (.slice none 0 0) := (block_cell HP4.out.sb 1).trans rfl; have yf0 : w4.frozen? ⟨w.heap.size + 1 + 1, 0, none⟩ = false := block_free HP4.out.sb 0; have yf1 : w4.frozen? ⟨w.heap.size + 1 + 1, 1, none⟩ = false := block_free HP4.out.sb 1; clear hq4)
    | (go_at_call 37; ((with_reducible refine (HK2.out _ HP4.out.box).mono ?_)); rintro r w5 ⟨rfl, hq5⟩; have HP5 := hide (HP4.out.call hq5); have HTnm5 := hide (HTnm4.out.stay (stay_call hq5)); have c1 := HP5.out.pb.c1; have c2 := HP5.out.pb.c2; have y0 : w5.cell? ⟨w.heap.size + 1 + 1, 0, none⟩ = some (.slice A1 n1 q1) := (block_cell HP5.out.sb 0).trans rfl; have y1 : w5.cell? ⟨w.heap.size + 1 + 1, 1, none⟩ = some (.slice none 0 0) := (block_cell HP5.out.sb 1).trans rfl; have yf0 : w5.frozen? ⟨w.heap.size + 1 + 1, 0, none⟩ = false := block_free HP5.out.sb 0; have yf1 : w5.frozen? ⟨w.heap.size + 1 + 1, 1, none⟩ = false := block_free HP5.out.sb 1; have z0 : w5.cell? ⟨w.heap.size, 0, none⟩ = some (.slice none 0 0) := (block_cell HP5.out.rb 0).trans rfl; have zf0 : w5.frozen? ⟨w.heap.size, 0, none⟩ = false := block_free HP5.out.rb 0; have z1 : w5.cell? ⟨w.heap.size, 1, none⟩ = some (.slice none 0 0) := (block_cell HP5.out.rb 1).trans rfl; have zf1 : w5.frozen? ⟨w.heap.size, 1, none⟩ = false := block_free HP5.out.rb 1; clear hq5)
    | (go_at_call 40; ((with_reducible refine (HF.out _ HP5.out.box).mono ?_)); rintro r w6 ⟨rfl, hq6⟩; have HP6 := hide (HP5.out.call hq6); have HTnm6 := hide (HTnm5.out.stay (stay_call hq6)); have c1 := HP6.out.pb.c1; have c2 := HP6.out.pb.c2; have y0 : w6.cell? ⟨w.heap.size + 1 + 1, 0, none⟩ = some (.slice A1 n1 q1) := (block_cell HP6.out.sb 0).trans rfl; have y1 : w6.cell? ⟨w.heap.size + 1 + 1, 1, none⟩ = some (.slice none 0 0) := (block_cell HP6.out.sb 1).trans rfl; have yf0 : w6.frozen? ⟨w.heap.size + 1 + 1, 0, none⟩ = false := block_free HP6.out.sb 0; have yf1 : w6.frozen? ⟨w.heap.size + 1 + 1, 1, none⟩ = false := block_free HP6.out.sb 1; have z0 : w6.cell? ⟨w.heap.size, 0, none⟩ = some (.slice none 0 0) := (block_cell HP6.out.rb 0).trans rfl; have zf0 : w6.frozen? ⟨w.heap.size, 0, none⟩ = false := block_free HP6.out.rb 0; have z1 : w6.cell? ⟨w.heap.size, 1, none⟩ = some (.slice none 0 0) := (block_cell HP6.out.rb 1).trans rfl; have zf1 : w6.frozen? ⟨w.heap.size, 1, none⟩ = false := block_free HP6.out.rb 1; clear hq6))
  go_region
  all_goals
    go_wp2_with (fail)
    have hbz := (show (((w6.setCell ⟨w.heap.size, 0, none⟩ (.slice none 0 0)).setCell ⟨w.heap.size, 1, none⟩ (.slice none 0 0))).drew.heap[w.heap.size]? = _ from block_set (block_set HP6.out.rb (i := 0) (.slice none 0 0)) (i := 1) (.slice none 0 0))
    have hbe := ((HP6.out.be.setCell (p := ⟨w.heap.size, 0, none⟩) (by simp) (.slice none 0 0)).setCell (p := ⟨w.heap.size, 1, none⟩) (by simp) (.slice none 0 0)).drew
    generalize (((w6.setCell ⟨w.heap.size, 0, none⟩ (.slice none 0 0)).setCell ⟨w.heap.size, 1, none⟩ (.slice none 0 0))).drew = wf at hbz hbe ⊢
    have r0 : wf.cell? ⟨w.heap.size, 0, none⟩ = some (.slice none 0 0) := (block_cell hbz 0).trans rfl
    have r1 : wf.cell? ⟨w.heap.size, 1, none⟩ = some (.slice none 0 0) := (block_cell hbz 1).trans rfl
    refine bodyPost_ret (by simp [results, Tryd.results15, go_sem, r0, r1]; try rfl) rfl ?_
    exact ⟨rfl, hbe⟩
set_option maxRecDepth 100000 in
set_option maxHeartbeats 16000000 in
theorem nParse_6y (s : ByteArray) (w : World) (hs : s.size ≤ 8000) (i : Nat) (a : List Part) (his : i ≤ s.size) (hid : idL s 0 ≠ 0) (hn : pParts s (pOne s 12) (s.size + 1) [] (s.extract 0 (0 + idL s 0)) (0 + idL s 0) = .ok i a) (j : Nat) (u : Unit) (hjs : j ≤ s.size) (hk : needB s [40] i = .ok j u) (hv : isB s j 41 = true) (m : Nat) (u2 : Unit) (hm2 : m ≤ s.size) (hk2 : needB s [41] j = .ok m u2) (hlt : ¬ m < s.size) (E : Int) (hE : (symE ⟨a, []⟩).1 = E) (h0 : E ≠ 0) :
    Calls Tryd.prog 15 #[.string s] w fun r w' => r = .returned (.tuple #[.agg #[.slice none 0 0, .slice none 0 0], .int .i64 0, .int .i64 E]) ∧ Below w.heap.size w w' := by
  have HP0 := hide (Ps.start w s 86)
  have h8 : decide ((8000 : Int) < (s.size : Int)) = false := by simp; omega
  obtain ⟨x, hx⟩ : ∃ x, s.extract 0 (0 + idL s 0) = x := ⟨_, rfl⟩
  obtain ⟨m0, hm0⟩ : ∃ m0, 0 + idL s 0 = m0 := ⟨_, rfl⟩
  have hm0s : m0 ≤ s.size := by rw [← hm0]; exact idL_le s 0 (Nat.zero_le _)
  have hxs : x.size ≤ 8000 := by rw [← hx]; exact ext_size _ _ _ hs
  rw [hx, hm0] at hn
  have HID := hide (show ∀ (W : World), W.heap[w.heap.size + 1]? = some (.cells #[.string s, .int .i64 (0 : Nat), .int .i64 (-1)] 86 (0, 0)) → Calls Tryd.prog 36 #[.pointer (some ⟨w.heap.size + 1, 0, none⟩)] W fun r w' => r = .returned (.string x) ∧ Pb (w.heap.size + 1) 86 s m0 (-1) W w' from fun W h => by have h1 := nIdent_onP (w.heap.size + 1) s 0 W hs (Nat.zero_le _) h; rw [idWr, if_neg hid, hx, hm0] at h1; exact h1)
  have HPR := hide (show ∀ (W : World), W.heap[w.heap.size + 1]? = some (.cells #[.string s, .int .i64 m0, .int .i64 (-1)] 86 (0, 0)) → Calls Tryd.prog 35 #[.pointer (some ⟨w.heap.size + 1, 0, none⟩), .string x, .int .i64 0] W fun r w' => ∃ (A : Option Addr) (n q : Nat), r = .returned (.slice A n q) ∧ Pb (w.heap.size + 1) 86 s i (-1) W w' ∧ PartsNew 12 W w' A n q a from fun W h => (nParts_of (nTys_ofP (nOneAll 12 (by decide))) (w.heap.size + 1) s x m0 0 W hs hxs hm0s (by decide) h).mono fun r w' ⟨A, n, q, h1, h2, h3⟩ => ⟨A, n, q, h1, h2.ok hn, h3 _ _ hn⟩)
  have HK1 := hide (show ∀ (W : World), W.heap[w.heap.size + 1]? = some (.cells #[.string s, .int .i64 i, .int .i64 (-1)] 86 (0, 0)) → Calls Tryd.prog 37 #[.pointer (some ⟨w.heap.size + 1, 0, none⟩), .string ⟨#[40]⟩] W fun r w' => r = .returned (.tuple #[]) ∧ Pb (w.heap.size + 1) 86 s j (-1) W w' from fun W h => (nTake_on (w.heap.size + 1) s ⟨#[40]⟩ i W hs (by decide) his h).mono fun r w' ⟨h1, h2⟩ => ⟨h1, h2.ok hk⟩)
  have HIS := hide (show ∀ (W : World), W.heap[w.heap.size + 1]? = some (.cells #[.string s, .int .i64 j, .int .i64 (-1)] 86 (0, 0)) → Calls Tryd.prog 38 #[.pointer (some ⟨w.heap.size + 1, 0, none⟩), .int .u8 41] W fun r w' => r = .returned (.bool true) ∧ Pb (w.heap.size + 1) 86 s j (-1) W w' from fun W h => nIs_yes (w.heap.size + 1) s j 41 W hs hjs hv h)
  have HK2 := hide (show ∀ (W : World), W.heap[w.heap.size + 1]? = some (.cells #[.string s, .int .i64 j, .int .i64 (-1)] 86 (0, 0)) → Calls Tryd.prog 37 #[.pointer (some ⟨w.heap.size + 1, 0, none⟩), .string ⟨#[41]⟩] W fun r w' => r = .returned (.tuple #[]) ∧ Pb (w.heap.size + 1) 86 s m (-1) W w' from fun W h => (nTake_on (w.heap.size + 1) s ⟨#[41]⟩ j W hs (by decide) hjs h).mono fun r w' ⟨h1, h2⟩ => ⟨h1, h2.ok hk2⟩)
  have hlti : decide (((m : Nat) : Int) < (s.size : Int)) = false := by simp; omega
  have hltn : decide (m < s.size) = false := by simp; omega
  have HCK := hide (show ∀ (A : Option Addr) (n q : Nat) (A' : Option Addr) (n' q' : Nat) (W : World), SymIn W 12 ⟨a, []⟩ [.slice A n q, .slice A' n' q'] → Calls Tryd.prog 16 #[.agg #[.slice A n q, .slice A' n' q']] W fun r w' => r = .returned (.int .i64 E) ∧ Below W.heap.size W w' from fun A n q A' n' q' W h => by have h1 := Check_any 12 ⟨a, []⟩ _ W h; rw [hE] at h1; exact h1)
  have h0' : (E == 0) = false := by simpa using h0
  clear hid hn hx hm0 hk hv hk2 h0 hE
  go_enter Tryd.func15, Tryd.ntmps15
  go_wp2_with (first
    | (go_at_call 36; ((with_reducible refine (HID.out _ HP0.out.box).mono ?_)); rintro r w1 ⟨rfl, hq1⟩; have HP1 := hide (HP0.out.call hq1); have c1 := HP1.out.pb.c1; have c2 := HP1.out.pb.c2; have y0 : w1.cell? ⟨w.heap.size + 1 + 1, 0, none⟩ = some (.slice none 0 0) := (block_cell HP1.out.sb 0).trans rfl; have y1 : w1.cell? ⟨w.heap.size + 1 + 1, 1, none⟩ = some (.slice none 0 0) := (block_cell HP1.out.sb 1).trans rfl; have yf0 : w1.frozen? ⟨w.heap.size + 1 + 1, 0, none⟩ = false := block_free HP1.out.sb 0; have yf1 : w1.frozen? ⟨w.heap.size + 1 + 1, 1, none⟩ = false := block_free HP1.out.sb 1; clear hq1)
    | (go_at_call 35; ((with_reducible refine (HPR.out _ HP1.out.box).mono ?_)); rintro r w2 ⟨A1, n1, q1, rfl, hq2, hpn⟩; have HP2 := hide (HP1.out.call hq2); have HTN := hide (NmS.of hpn HP1.out.lt); clear hpn; have c1 := HP2.out.pb.c1; have c2 := HP2.out.pb.c2; have y0 : w2.cell? ⟨w.heap.size + 1 + 1, 0, none⟩ = some (.slice none 0 0) := (block_cell HP2.out.sb 0).trans rfl; have y1 : w2.cell? ⟨w.heap.size + 1 + 1, 1, none⟩ = some (.slice none 0 0) := (block_cell HP2.out.sb 1).trans rfl; have yf0 : w2.frozen? ⟨w.heap.size + 1 + 1, 0, none⟩ = false := block_free HP2.out.sb 0; have yf1 : w2.frozen? ⟨w.heap.size + 1 + 1, 1, none⟩ = false := block_free HP2.out.sb 1; have HP2s := hide (HP2.out.set0 (.slice A1 n1 q1)); have HTNs := hide (HTN.out.stay (stay_s w w2 0 (.slice A1 n1 q1))); clear hq2)
    | (go_at_call 37; ((with_reducible refine (HK1.out _ HP2s.out.box).mono ?_)); rintro r w3 ⟨rfl, hq3⟩; have HP3 := hide (HP2s.out.call hq3); have HTnm3 := hide (HTNs.out.stay (stay_call hq3)); have c1 := HP3.out.pb.c1; have c2 := HP3.out.pb.c2; have y0 : w3.cell? ⟨w.heap.size + 1 + 1, 0, none⟩ = some (.slice A1 n1 q1) := (block_cell HP3.out.sb 0).trans rfl; have y1 : w3.cell? ⟨w.heap.size + 1 + 1, 1, none⟩ = some (.slice none 0 0) := (block_cell HP3.out.sb 1).trans rfl; have yf0 : w3.frozen? ⟨w.heap.size + 1 + 1, 0, none⟩ = false := block_free HP3.out.sb 0; have yf1 : w3.frozen? ⟨w.heap.size + 1 + 1, 1, none⟩ = false := block_free HP3.out.sb 1; clear hq3)
    | (go_at_call 38; ((with_reducible refine (HIS.out _ HP3.out.box).mono ?_)); rintro r w4 ⟨rfl, hq4⟩; have HP4 := hide (HP3.out.call hq4); have HTnm4 := hide (HTnm3.out.stay (stay_call hq4)); have c1 := HP4.out.pb.c1; have c2 := HP4.out.pb.c2; have y0 : w4.cell? ⟨w.heap.size + 1 + 1, 0, none⟩ = some (.slice A1 n1 q1) := (block_cell HP4.out.sb 0).trans rfl; have y1 : w4.cell? ⟨w.heap.size + 1 + 1, 1, none⟩ = some (.slice none 0 0) := (block_cell HP4.out.sb 1).trans rfl; have yf0 : w4.frozen? ⟨w.heap.size + 1 + 1, 0, none⟩ = false := block_free HP4.out.sb 0; have yf1 : w4.frozen? ⟨w.heap.size + 1 + 1, 1, none⟩ = false := block_free HP4.out.sb 1; clear hq4)
    | (go_at_call 37; ((with_reducible refine (HK2.out _ HP4.out.box).mono ?_)); rintro r w5 ⟨rfl, hq5⟩; have HP5 := hide (HP4.out.call hq5); have HTnm5 := hide (HTnm4.out.stay (stay_call hq5)); have c1 := HP5.out.pb.c1; have c2 := HP5.out.pb.c2; have y0 : w5.cell? ⟨w.heap.size + 1 + 1, 0, none⟩ = some (.slice A1 n1 q1) := (block_cell HP5.out.sb 0).trans rfl; have y1 : w5.cell? ⟨w.heap.size + 1 + 1, 1, none⟩ = some (.slice none 0 0) := (block_cell HP5.out.sb 1).trans rfl; have yf0 : w5.frozen? ⟨w.heap.size + 1 + 1, 0, none⟩ = false := block_free HP5.out.sb 0; have yf1 : w5.frozen? ⟨w.heap.size + 1 + 1, 1, none⟩ = false := block_free HP5.out.sb 1; have z0 : w5.cell? ⟨w.heap.size, 0, none⟩ = some (.slice none 0 0) := (block_cell HP5.out.rb 0).trans rfl; have zf0 : w5.frozen? ⟨w.heap.size, 0, none⟩ = false := block_free HP5.out.rb 0; have z1 : w5.cell? ⟨w.heap.size, 1, none⟩ = some (.slice none 0 0) := (block_cell HP5.out.rb 1).trans rfl; have zf1 : w5.frozen? ⟨w.heap.size, 1, none⟩ = false := block_free HP5.out.rb 1; clear hq5)
    | (go_at_call 16; refine (HCK.out _ _ _ _ _ _ _ (sym_of HTnm5.out (TkS.nil w _))).mono ?_; rintro r w6 ⟨rfl, hwk⟩; have HBE := hide (HP5.out.be.trans (hwk.mono HP5.out.be.size)); have HRB := hide (block_below HP5.out.rb hwk); have HSB := hide (block_below HP5.out.sb hwk); have HNM := hide (HTnm5.out.stay (stay_b hwk)); have HTKK := hide ((TkS.nil w _).stay (w := w) (stay_b hwk)); have z0 : w6.cell? ⟨w.heap.size, 0, none⟩ = some (.slice none 0 0) := (block_cell HRB.out 0).trans rfl; have zf0 : w6.frozen? ⟨w.heap.size, 0, none⟩ = false := block_free HRB.out 0; have z1 : w6.cell? ⟨w.heap.size, 1, none⟩ = some (.slice none 0 0) := (block_cell HRB.out 1).trans rfl; have zf1 : w6.frozen? ⟨w.heap.size, 1, none⟩ = false := block_free HRB.out 1; have y0 : w6.cell? ⟨w.heap.size + 1 + 1, 0, none⟩ = some (.slice A1 n1 q1) := (block_cell HSB.out 0).trans rfl; have y1 : w6.cell? ⟨w.heap.size + 1 + 1, 1, none⟩ = some (.slice none 0 0) := (block_cell HSB.out 1).trans rfl; clear hwk))
  have hbz := block_set (block_set HRB.out (i := 0) (.slice none 0 0)) (i := 1) (.slice none 0 0)
  have hbe := (HBE.out.setCell (p := ⟨w.heap.size, 0, none⟩) (by simp) (.slice none 0 0)).setCell (p := ⟨w.heap.size, 1, none⟩) (by simp) (.slice none 0 0)
  generalize ((w6.setCell ⟨w.heap.size, 0, none⟩ (.slice none 0 0)).setCell ⟨w.heap.size, 1, none⟩ (.slice none 0 0)) = wf at hbz hbe ⊢
  have r0 : wf.cell? ⟨w.heap.size, 0, none⟩ = some (.slice none 0 0) := (block_cell hbz 0).trans rfl
  have r1 : wf.cell? ⟨w.heap.size, 1, none⟩ = some (.slice none 0 0) := (block_cell hbz 1).trans rfl
  refine bodyPost_ret (by simp [results, Tryd.results15, go_sem, r0, r1]; try rfl) rfl ?_
  exact ⟨rfl, hbe⟩
set_option maxRecDepth 100000 in
set_option maxHeartbeats 16000000 in
theorem nParse_7y (s : ByteArray) (w : World) (hs : s.size ≤ 8000) (i : Nat) (a : List Part) (his : i ≤ s.size) (hid : idL s 0 ≠ 0) (hn : pParts s (pOne s 12) (s.size + 1) [] (s.extract 0 (0 + idL s 0)) (0 + idL s 0) = .ok i a) (j : Nat) (u : Unit) (hjs : j ≤ s.size) (hk : needB s [40] i = .ok j u) (hv : isB s j 41 = true) (m : Nat) (u2 : Unit) (hm2 : m ≤ s.size) (hk2 : needB s [41] j = .ok m u2) (hlt : ¬ m < s.size) (hE : (symE ⟨a, []⟩).1 = 0) :
    Calls Tryd.prog 15 #[.string s] w fun r w' => (∃ (A : Option Addr) (n q : Nat) (A' : Option Addr) (n' q' : Nat), r = .returned (.tuple #[.agg #[.slice A n q, .slice A' n' q'], .int .i64 0, .int .i64 0]) ∧ SymIn w' 12 ⟨a, []⟩ [.slice A n q, .slice A' n' q']) ∧ Below w.heap.size w w' := by
  have HP0 := hide (Ps.start w s 86)
  have h8 : decide ((8000 : Int) < (s.size : Int)) = false := by simp; omega
  obtain ⟨x, hx⟩ : ∃ x, s.extract 0 (0 + idL s 0) = x := ⟨_, rfl⟩
  obtain ⟨m0, hm0⟩ : ∃ m0, 0 + idL s 0 = m0 := ⟨_, rfl⟩
  have hm0s : m0 ≤ s.size := by rw [← hm0]; exact idL_le s 0 (Nat.zero_le _)
  have hxs : x.size ≤ 8000 := by rw [← hx]; exact ext_size _ _ _ hs
  rw [hx, hm0] at hn
  have HID := hide (show ∀ (W : World), W.heap[w.heap.size + 1]? = some (.cells #[.string s, .int .i64 (0 : Nat), .int .i64 (-1)] 86 (0, 0)) → Calls Tryd.prog 36 #[.pointer (some ⟨w.heap.size + 1, 0, none⟩)] W fun r w' => r = .returned (.string x) ∧ Pb (w.heap.size + 1) 86 s m0 (-1) W w' from fun W h => by have h1 := nIdent_onP (w.heap.size + 1) s 0 W hs (Nat.zero_le _) h; rw [idWr, if_neg hid, hx, hm0] at h1; exact h1)
  have HPR := hide (show ∀ (W : World), W.heap[w.heap.size + 1]? = some (.cells #[.string s, .int .i64 m0, .int .i64 (-1)] 86 (0, 0)) → Calls Tryd.prog 35 #[.pointer (some ⟨w.heap.size + 1, 0, none⟩), .string x, .int .i64 0] W fun r w' => ∃ (A : Option Addr) (n q : Nat), r = .returned (.slice A n q) ∧ Pb (w.heap.size + 1) 86 s i (-1) W w' ∧ PartsNew 12 W w' A n q a from fun W h => (nParts_of (nTys_ofP (nOneAll 12 (by decide))) (w.heap.size + 1) s x m0 0 W hs hxs hm0s (by decide) h).mono fun r w' ⟨A, n, q, h1, h2, h3⟩ => ⟨A, n, q, h1, h2.ok hn, h3 _ _ hn⟩)
  have HK1 := hide (show ∀ (W : World), W.heap[w.heap.size + 1]? = some (.cells #[.string s, .int .i64 i, .int .i64 (-1)] 86 (0, 0)) → Calls Tryd.prog 37 #[.pointer (some ⟨w.heap.size + 1, 0, none⟩), .string ⟨#[40]⟩] W fun r w' => r = .returned (.tuple #[]) ∧ Pb (w.heap.size + 1) 86 s j (-1) W w' from fun W h => (nTake_on (w.heap.size + 1) s ⟨#[40]⟩ i W hs (by decide) his h).mono fun r w' ⟨h1, h2⟩ => ⟨h1, h2.ok hk⟩)
  have HIS := hide (show ∀ (W : World), W.heap[w.heap.size + 1]? = some (.cells #[.string s, .int .i64 j, .int .i64 (-1)] 86 (0, 0)) → Calls Tryd.prog 38 #[.pointer (some ⟨w.heap.size + 1, 0, none⟩), .int .u8 41] W fun r w' => r = .returned (.bool true) ∧ Pb (w.heap.size + 1) 86 s j (-1) W w' from fun W h => nIs_yes (w.heap.size + 1) s j 41 W hs hjs hv h)
  have HK2 := hide (show ∀ (W : World), W.heap[w.heap.size + 1]? = some (.cells #[.string s, .int .i64 j, .int .i64 (-1)] 86 (0, 0)) → Calls Tryd.prog 37 #[.pointer (some ⟨w.heap.size + 1, 0, none⟩), .string ⟨#[41]⟩] W fun r w' => r = .returned (.tuple #[]) ∧ Pb (w.heap.size + 1) 86 s m (-1) W w' from fun W h => (nTake_on (w.heap.size + 1) s ⟨#[41]⟩ j W hs (by decide) hjs h).mono fun r w' ⟨h1, h2⟩ => ⟨h1, h2.ok hk2⟩)
  have hlti : decide (((m : Nat) : Int) < (s.size : Int)) = false := by simp; omega
  have hltn : decide (m < s.size) = false := by simp; omega
  have HCK := hide (show ∀ (A : Option Addr) (n q : Nat) (A' : Option Addr) (n' q' : Nat) (W : World), SymIn W 12 ⟨a, []⟩ [.slice A n q, .slice A' n' q'] → Calls Tryd.prog 16 #[.agg #[.slice A n q, .slice A' n' q']] W fun r w' => r = .returned (.int .i64 0) ∧ Below W.heap.size W w' from fun A n q A' n' q' W h => by have h1 := Check_any 12 ⟨a, []⟩ _ W h; rw [hE] at h1; exact h1)
  clear hid hn hx hm0 hk hv hk2 hE
  go_enter Tryd.func15, Tryd.ntmps15
  go_wp2_with (first
    | (go_at_call 36; ((with_reducible refine (HID.out _ HP0.out.box).mono ?_)); rintro r w1 ⟨rfl, hq1⟩; have HP1 := hide (HP0.out.call hq1); have c1 := HP1.out.pb.c1; have c2 := HP1.out.pb.c2; have y0 : w1.cell? ⟨w.heap.size + 1 + 1, 0, none⟩ = some (.slice none 0 0) := (block_cell HP1.out.sb 0).trans rfl; have y1 : w1.cell? ⟨w.heap.size + 1 + 1, 1, none⟩ = some (.slice none 0 0) := (block_cell HP1.out.sb 1).trans rfl; have yf0 : w1.frozen? ⟨w.heap.size + 1 + 1, 0, none⟩ = false := block_free HP1.out.sb 0; have yf1 : w1.frozen? ⟨w.heap.size + 1 + 1, 1, none⟩ = false := block_free HP1.out.sb 1; clear hq1)
    | (go_at_call 35; ((with_reducible refine (HPR.out _ HP1.out.box).mono ?_)); rintro r w2 ⟨A1, n1, q1, rfl, hq2, hpn⟩; have HP2 := hide (HP1.out.call hq2); have HTN := hide (NmS.of hpn HP1.out.lt); clear hpn; have c1 := HP2.out.pb.c1; have c2 := HP2.out.pb.c2; have y0 : w2.cell? ⟨w.heap.size + 1 + 1, 0, none⟩ = some (.slice none 0 0) := (block_cell HP2.out.sb 0).trans rfl; have y1 : w2.cell? ⟨w.heap.size + 1 + 1, 1, none⟩ = some (.slice none 0 0) := (block_cell HP2.out.sb 1).trans rfl; have yf0 : w2.frozen? ⟨w.heap.size + 1 + 1, 0, none⟩ = false := block_free HP2.out.sb 0; have yf1 : w2.frozen? ⟨w.heap.size + 1 + 1, 1, none⟩ = false := block_free HP2.out.sb 1; have HP2s := hide (HP2.out.set0 (.slice A1 n1 q1)); have HTNs := hide (HTN.out.stay (stay_s w w2 0 (.slice A1 n1 q1))); clear hq2)
    | (go_at_call 37; ((with_reducible refine (HK1.out _ HP2s.out.box).mono ?_)); rintro r w3 ⟨rfl, hq3⟩; have HP3 := hide (HP2s.out.call hq3); have HTnm3 := hide (HTNs.out.stay (stay_call hq3)); have c1 := HP3.out.pb.c1; have c2 := HP3.out.pb.c2; have y0 : w3.cell? ⟨w.heap.size + 1 + 1, 0, none⟩ = some (.slice A1 n1 q1) := (block_cell HP3.out.sb 0).trans rfl; have y1 : w3.cell? ⟨w.heap.size + 1 + 1, 1, none⟩ = some (.slice none 0 0) := (block_cell HP3.out.sb 1).trans rfl; have yf0 : w3.frozen? ⟨w.heap.size + 1 + 1, 0, none⟩ = false := block_free HP3.out.sb 0; have yf1 : w3.frozen? ⟨w.heap.size + 1 + 1, 1, none⟩ = false := block_free HP3.out.sb 1; clear hq3)
    | (go_at_call 38; ((with_reducible refine (HIS.out _ HP3.out.box).mono ?_)); rintro r w4 ⟨rfl, hq4⟩; have HP4 := hide (HP3.out.call hq4); have HTnm4 := hide (HTnm3.out.stay (stay_call hq4)); have c1 := HP4.out.pb.c1; have c2 := HP4.out.pb.c2; have y0 : w4.cell? ⟨w.heap.size + 1 + 1, 0, none⟩ = some (.slice A1 n1 q1) := (block_cell HP4.out.sb 0).trans rfl; have y1 : w4.cell? ⟨w.heap.size + 1 + 1, 1, none⟩ = some (.slice none 0 0) := (block_cell HP4.out.sb 1).trans rfl; have yf0 : w4.frozen? ⟨w.heap.size + 1 + 1, 0, none⟩ = false := block_free HP4.out.sb 0; have yf1 : w4.frozen? ⟨w.heap.size + 1 + 1, 1, none⟩ = false := block_free HP4.out.sb 1; clear hq4)
    | (go_at_call 37; ((with_reducible refine (HK2.out _ HP4.out.box).mono ?_)); rintro r w5 ⟨rfl, hq5⟩; have HP5 := hide (HP4.out.call hq5); have HTnm5 := hide (HTnm4.out.stay (stay_call hq5)); have c1 := HP5.out.pb.c1; have c2 := HP5.out.pb.c2; have y0 : w5.cell? ⟨w.heap.size + 1 + 1, 0, none⟩ = some (.slice A1 n1 q1) := (block_cell HP5.out.sb 0).trans rfl; have y1 : w5.cell? ⟨w.heap.size + 1 + 1, 1, none⟩ = some (.slice none 0 0) := (block_cell HP5.out.sb 1).trans rfl; have yf0 : w5.frozen? ⟨w.heap.size + 1 + 1, 0, none⟩ = false := block_free HP5.out.sb 0; have yf1 : w5.frozen? ⟨w.heap.size + 1 + 1, 1, none⟩ = false := block_free HP5.out.sb 1; have z0 : w5.cell? ⟨w.heap.size, 0, none⟩ = some (.slice none 0 0) := (block_cell HP5.out.rb 0).trans rfl; have zf0 : w5.frozen? ⟨w.heap.size, 0, none⟩ = false := block_free HP5.out.rb 0; have z1 : w5.cell? ⟨w.heap.size, 1, none⟩ = some (.slice none 0 0) := (block_cell HP5.out.rb 1).trans rfl; have zf1 : w5.frozen? ⟨w.heap.size, 1, none⟩ = false := block_free HP5.out.rb 1; clear hq5)
    | (go_at_call 16; refine (HCK.out _ _ _ _ _ _ _ (sym_of HTnm5.out (TkS.nil w _))).mono ?_; rintro r w6 ⟨rfl, hwk⟩; have HBE := hide (HP5.out.be.trans (hwk.mono HP5.out.be.size)); have HRB := hide (block_below HP5.out.rb hwk); have HSB := hide (block_below HP5.out.sb hwk); have HNM := hide (HTnm5.out.stay (stay_b hwk)); have HTKK := hide ((TkS.nil w _).stay (w := w) (stay_b hwk)); have z0 : w6.cell? ⟨w.heap.size, 0, none⟩ = some (.slice none 0 0) := (block_cell HRB.out 0).trans rfl; have zf0 : w6.frozen? ⟨w.heap.size, 0, none⟩ = false := block_free HRB.out 0; have z1 : w6.cell? ⟨w.heap.size, 1, none⟩ = some (.slice none 0 0) := (block_cell HRB.out 1).trans rfl; have zf1 : w6.frozen? ⟨w.heap.size, 1, none⟩ = false := block_free HRB.out 1; have y0 : w6.cell? ⟨w.heap.size + 1 + 1, 0, none⟩ = some (.slice A1 n1 q1) := (block_cell HSB.out 0).trans rfl; have y1 : w6.cell? ⟨w.heap.size + 1 + 1, 1, none⟩ = some (.slice none 0 0) := (block_cell HSB.out 1).trans rfl; clear hwk))
  have hbz := block_set (block_set HRB.out (i := 0) (.slice A1 n1 q1)) (i := 1) (.slice none 0 0)
  have hbe := (HBE.out.setCell (p := ⟨w.heap.size, 0, none⟩) (by simp) (.slice A1 n1 q1)).setCell (p := ⟨w.heap.size, 1, none⟩) (by simp) (.slice none 0 0)
  have hst := stay_rb w w6 (.slice A1 n1 q1) (.slice none 0 0)
  generalize ((w6.setCell ⟨w.heap.size, 0, none⟩ (.slice A1 n1 q1)).setCell ⟨w.heap.size, 1, none⟩ (.slice none 0 0)) = wf at hbz hbe hst ⊢
  have r0 : wf.cell? ⟨w.heap.size, 0, none⟩ = some (.slice A1 n1 q1) := (block_cell hbz 0).trans rfl
  have r1 : wf.cell? ⟨w.heap.size, 1, none⟩ = some (.slice none 0 0) := (block_cell hbz 1).trans rfl
  refine bodyPost_ret (by simp [results, Tryd.results15, go_sem, r0, r1]; try rfl) rfl ?_
  exact ⟨⟨_, _, _, _, _, _, rfl, sym_of (HNM.out.stay hst) (HTKK.out.stay hst)⟩, hbe⟩
set_option maxRecDepth 100000 in
set_option maxHeartbeats 16000000 in
theorem nParse_4 (s : ByteArray) (w : World) (hs : s.size ≤ 8000) (i : Nat) (a : List Part) (his : i ≤ s.size) (hid : idL s 0 ≠ 0) (hn : pParts s (pOne s 12) (s.size + 1) [] (s.extract 0 (0 + idL s 0)) (0 + idL s 0) = .ok i a) (j : Nat) (u : Unit) (hjs : j ≤ s.size) (hk : needB s [40] i = .ok j u) (hv : isB s j 41 = false) (k : Nat) (l : List Ty) (hks : k ≤ s.size) (ht : pTys s (pOne s 12) (s.size + 1) [] j = .ok k l) (e : Nat) (hk2 : needB s [41] k = .bad e) :
    Calls Tryd.prog 15 #[.string s] w fun r w' => r = .returned (.tuple #[.agg #[.slice none 0 0, .slice none 0 0], .int .i64 (e : Nat), .int .i64 8]) ∧ Below w.heap.size w w' := by
  have HP0 := hide (Ps.start w s 86)
  have h8 : decide ((8000 : Int) < (s.size : Int)) = false := by simp; omega
  obtain ⟨x, hx⟩ : ∃ x, s.extract 0 (0 + idL s 0) = x := ⟨_, rfl⟩
  obtain ⟨m0, hm0⟩ : ∃ m0, 0 + idL s 0 = m0 := ⟨_, rfl⟩
  have hm0s : m0 ≤ s.size := by rw [← hm0]; exact idL_le s 0 (Nat.zero_le _)
  have hxs : x.size ≤ 8000 := by rw [← hx]; exact ext_size _ _ _ hs
  rw [hx, hm0] at hn
  have HID := hide (show ∀ (W : World), W.heap[w.heap.size + 1]? = some (.cells #[.string s, .int .i64 (0 : Nat), .int .i64 (-1)] 86 (0, 0)) → Calls Tryd.prog 36 #[.pointer (some ⟨w.heap.size + 1, 0, none⟩)] W fun r w' => r = .returned (.string x) ∧ Pb (w.heap.size + 1) 86 s m0 (-1) W w' from fun W h => by have h1 := nIdent_onP (w.heap.size + 1) s 0 W hs (Nat.zero_le _) h; rw [idWr, if_neg hid, hx, hm0] at h1; exact h1)
  have HPR := hide (show ∀ (W : World), W.heap[w.heap.size + 1]? = some (.cells #[.string s, .int .i64 m0, .int .i64 (-1)] 86 (0, 0)) → Calls Tryd.prog 35 #[.pointer (some ⟨w.heap.size + 1, 0, none⟩), .string x, .int .i64 0] W fun r w' => ∃ (A : Option Addr) (n q : Nat), r = .returned (.slice A n q) ∧ Pb (w.heap.size + 1) 86 s i (-1) W w' ∧ PartsNew 12 W w' A n q a from fun W h => (nParts_of (nTys_ofP (nOneAll 12 (by decide))) (w.heap.size + 1) s x m0 0 W hs hxs hm0s (by decide) h).mono fun r w' ⟨A, n, q, h1, h2, h3⟩ => ⟨A, n, q, h1, h2.ok hn, h3 _ _ hn⟩)
  have HK1 := hide (show ∀ (W : World), W.heap[w.heap.size + 1]? = some (.cells #[.string s, .int .i64 i, .int .i64 (-1)] 86 (0, 0)) → Calls Tryd.prog 37 #[.pointer (some ⟨w.heap.size + 1, 0, none⟩), .string ⟨#[40]⟩] W fun r w' => r = .returned (.tuple #[]) ∧ Pb (w.heap.size + 1) 86 s j (-1) W w' from fun W h => (nTake_on (w.heap.size + 1) s ⟨#[40]⟩ i W hs (by decide) his h).mono fun r w' ⟨h1, h2⟩ => ⟨h1, h2.ok hk⟩)
  have HIS := hide (show ∀ (W : World), W.heap[w.heap.size + 1]? = some (.cells #[.string s, .int .i64 j, .int .i64 (-1)] 86 (0, 0)) → Calls Tryd.prog 38 #[.pointer (some ⟨w.heap.size + 1, 0, none⟩), .int .u8 41] W fun r w' => r = .returned (.bool false) ∧ Pb (w.heap.size + 1) 86 s j (-1) W w' from fun W h => nIs_no (w.heap.size + 1) s j 41 W hs hjs hv h)
  have HTC := hide (show ∀ (W : World), W.heap[w.heap.size + 1]? = some (.cells #[.string s, .int .i64 j, .int .i64 (-1)] 86 (0, 0)) → Calls Tryd.prog 39 #[.pointer (some ⟨w.heap.size + 1, 0, none⟩), .int .i64 0] W fun r w' => ∃ (A : Option Addr) (n q : Nat), r = .returned (.slice A n q) ∧ Pb (w.heap.size + 1) 86 s k (-1) W w' ∧ TysNew 12 W w' A n q l from fun W h => (nTys_ofP (nOneAll 12 (by decide)) (w.heap.size + 1) s j 0 W hs hjs (by decide) h).mono fun r w' ⟨A, n, q, h1, _, _, h2, h3⟩ => ⟨A, n, q, h1, h2.ok ht, h3 _ _ ht⟩)
  have HK2 := hide (show ∀ (W : World), W.heap[w.heap.size + 1]? = some (.cells #[.string s, .int .i64 k, .int .i64 (-1)] 86 (0, 0)) → Calls Tryd.prog 37 #[.pointer (some ⟨w.heap.size + 1, 0, none⟩), .string ⟨#[41]⟩] W fun r w' => r = .returned (.tuple #[]) ∧ ∃ i : Nat, i ≤ s.size ∧ Pb (w.heap.size + 1) 86 s i (e : Nat) W w' from fun W h => (nTake_on (w.heap.size + 1) s ⟨#[41]⟩ k W hs (by decide) hks h).mono fun r w' ⟨h1, h2⟩ => ⟨h1, h2.bad hk2⟩)
  have hoff : decide (((e : Nat) : Int) < 0) = false := by simp
  have hon : (0 : Int) ≤ ((e : Nat) : Int) := by omega
  clear hid hn hx hm0 hk hv ht hk2
  go_enter Tryd.func15, Tryd.ntmps15
  go_wp2_with (first
    | (go_at_call 36; ((with_reducible refine (HID.out _ HP0.out.box).mono ?_)); rintro r w1 ⟨rfl, hq1⟩; have HP1 := hide (HP0.out.call hq1); have c1 := HP1.out.pb.c1; have c2 := HP1.out.pb.c2; have y0 : w1.cell? ⟨w.heap.size + 1 + 1, 0, none⟩ = some (.slice none 0 0) := (block_cell HP1.out.sb 0).trans rfl; have y1 : w1.cell? ⟨w.heap.size + 1 + 1, 1, none⟩ = some (.slice none 0 0) := (block_cell HP1.out.sb 1).trans rfl; have yf0 : w1.frozen? ⟨w.heap.size + 1 + 1, 0, none⟩ = false := block_free HP1.out.sb 0; have yf1 : w1.frozen? ⟨w.heap.size + 1 + 1, 1, none⟩ = false := block_free HP1.out.sb 1; clear hq1)
    | (go_at_call 35; ((with_reducible refine (HPR.out _ HP1.out.box).mono ?_)); rintro r w2 ⟨A1, n1, q1, rfl, hq2, hpn⟩; have HP2 := hide (HP1.out.call hq2); have HTN := hide (NmS.of hpn HP1.out.lt); clear hpn; have c1 := HP2.out.pb.c1; have c2 := HP2.out.pb.c2; have y0 : w2.cell? ⟨w.heap.size + 1 + 1, 0, none⟩ = some (.slice none 0 0) := (block_cell HP2.out.sb 0).trans rfl; have y1 : w2.cell? ⟨w.heap.size + 1 + 1, 1, none⟩ = some (.slice none 0 0) := (block_cell HP2.out.sb 1).trans rfl; have yf0 : w2.frozen? ⟨w.heap.size + 1 + 1, 0, none⟩ = false := block_free HP2.out.sb 0; have yf1 : w2.frozen? ⟨w.heap.size + 1 + 1, 1, none⟩ = false := block_free HP2.out.sb 1; have HP2s := hide (HP2.out.set0 (.slice A1 n1 q1)); have HTNs := hide (HTN.out.stay (stay_s w w2 0 (.slice A1 n1 q1))); clear hq2)
    | (go_at_call 37; ((with_reducible refine (HK1.out _ HP2s.out.box).mono ?_)); rintro r w3 ⟨rfl, hq3⟩; have HP3 := hide (HP2s.out.call hq3); have HTnm3 := hide (HTNs.out.stay (stay_call hq3)); have c1 := HP3.out.pb.c1; have c2 := HP3.out.pb.c2; have y0 : w3.cell? ⟨w.heap.size + 1 + 1, 0, none⟩ = some (.slice A1 n1 q1) := (block_cell HP3.out.sb 0).trans rfl; have y1 : w3.cell? ⟨w.heap.size + 1 + 1, 1, none⟩ = some (.slice none 0 0) := (block_cell HP3.out.sb 1).trans rfl; have yf0 : w3.frozen? ⟨w.heap.size + 1 + 1, 0, none⟩ = false := block_free HP3.out.sb 0; have yf1 : w3.frozen? ⟨w.heap.size + 1 + 1, 1, none⟩ = false := block_free HP3.out.sb 1; clear hq3)
    | (go_at_call 38; ((with_reducible refine (HIS.out _ HP3.out.box).mono ?_)); rintro r w4 ⟨rfl, hq4⟩; have HP4 := hide (HP3.out.call hq4); have HTnm4 := hide (HTnm3.out.stay (stay_call hq4)); have c1 := HP4.out.pb.c1; have c2 := HP4.out.pb.c2; have y0 : w4.cell? ⟨w.heap.size + 1 + 1, 0, none⟩ = some (.slice A1 n1 q1) := (block_cell HP4.out.sb 0).trans rfl; have y1 : w4.cell? ⟨w.heap.size + 1 + 1, 1, none⟩ = some (.slice none 0 0) := (block_cell HP4.out.sb 1).trans rfl; have yf0 : w4.frozen? ⟨w.heap.size + 1 + 1, 0, none⟩ = false := block_free HP4.out.sb 0; have yf1 : w4.frozen? ⟨w.heap.size + 1 + 1, 1, none⟩ = false := block_free HP4.out.sb 1; clear hq4)
    | (go_at_call 39; ((with_reducible refine (HTC.out _ HP4.out.box).mono ?_)); rintro r w5 ⟨A2, n2, q2, rfl, hq5, htn⟩; have HP5 := hide (HP4.out.call hq5); have HTM := hide (TkS.of htn HP4.out.lt); clear htn; have HTnm5 := hide (HTnm4.out.stay (stay_call hq5)); have c1 := HP5.out.pb.c1; have c2 := HP5.out.pb.c2; have y0 : w5.cell? ⟨w.heap.size + 1 + 1, 0, none⟩ = some (.slice A1 n1 q1) := (block_cell HP5.out.sb 0).trans rfl; have y1 : w5.cell? ⟨w.heap.size + 1 + 1, 1, none⟩ = some (.slice none 0 0) := (block_cell HP5.out.sb 1).trans rfl; have yf0 : w5.frozen? ⟨w.heap.size + 1 + 1, 0, none⟩ = false := block_free HP5.out.sb 0; have yf1 : w5.frozen? ⟨w.heap.size + 1 + 1, 1, none⟩ = false := block_free HP5.out.sb 1; have HP5s := hide (HP5.out.set1 (.slice A2 n2 q2)); have HTnm5s := hide (HTnm5.out.stay (stay_s w w5 1 (.slice A2 n2 q2))); have HTMs := hide (HTM.out.stay (stay_s w w5 1 (.slice A2 n2 q2))); clear hq5)
    | (go_at_call 37; ((with_reducible refine (HK2.out _ HP5s.out.box).mono ?_)); rintro r w6 ⟨rfl, yk, hyk, hq6⟩; have HP6 := hide (HP5s.out.call hq6); have HTnm6 := hide (HTnm5s.out.stay (stay_call hq6)); have HTtk6 := hide (HTMs.out.stay (stay_call hq6)); have c1 := HP6.out.pb.c1; have c2 := HP6.out.pb.c2; have y0 : w6.cell? ⟨w.heap.size + 1 + 1, 0, none⟩ = some (.slice A1 n1 q1) := (block_cell HP6.out.sb 0).trans rfl; have y1 : w6.cell? ⟨w.heap.size + 1 + 1, 1, none⟩ = some (.slice A2 n2 q2) := (block_cell HP6.out.sb 1).trans rfl; have yf0 : w6.frozen? ⟨w.heap.size + 1 + 1, 0, none⟩ = false := block_free HP6.out.sb 0; have yf1 : w6.frozen? ⟨w.heap.size + 1 + 1, 1, none⟩ = false := block_free HP6.out.sb 1; have z0 : w6.cell? ⟨w.heap.size, 0, none⟩ = some (.slice none 0 0) := (block_cell HP6.out.rb 0).trans rfl; have zf0 : w6.frozen? ⟨w.heap.size, 0, none⟩ = false := block_free HP6.out.rb 0; have z1 : w6.cell? ⟨w.heap.size, 1, none⟩ = some (.slice none 0 0) := (block_cell HP6.out.rb 1).trans rfl; have zf1 : w6.frozen? ⟨w.heap.size, 1, none⟩ = false := block_free HP6.out.rb 1; clear hq6))
  go_region
  all_goals
    go_wp2_with (fail)
    have hbz := (show (((w6.setCell ⟨w.heap.size, 0, none⟩ (.slice none 0 0)).setCell ⟨w.heap.size, 1, none⟩ (.slice none 0 0))).drew.heap[w.heap.size]? = _ from block_set (block_set HP6.out.rb (i := 0) (.slice none 0 0)) (i := 1) (.slice none 0 0))
    have hbe := ((HP6.out.be.setCell (p := ⟨w.heap.size, 0, none⟩) (by simp) (.slice none 0 0)).setCell (p := ⟨w.heap.size, 1, none⟩) (by simp) (.slice none 0 0)).drew
    generalize (((w6.setCell ⟨w.heap.size, 0, none⟩ (.slice none 0 0)).setCell ⟨w.heap.size, 1, none⟩ (.slice none 0 0))).drew = wf at hbz hbe ⊢
    have r0 : wf.cell? ⟨w.heap.size, 0, none⟩ = some (.slice none 0 0) := (block_cell hbz 0).trans rfl
    have r1 : wf.cell? ⟨w.heap.size, 1, none⟩ = some (.slice none 0 0) := (block_cell hbz 1).trans rfl
    refine bodyPost_ret (by simp [results, Tryd.results15, go_sem, r0, r1]; try rfl) rfl ?_
    exact ⟨rfl, hbe⟩
set_option maxRecDepth 100000 in
set_option maxHeartbeats 16000000 in
theorem nParse_5t (s : ByteArray) (w : World) (hs : s.size ≤ 8000) (i : Nat) (a : List Part) (his : i ≤ s.size) (hid : idL s 0 ≠ 0) (hn : pParts s (pOne s 12) (s.size + 1) [] (s.extract 0 (0 + idL s 0)) (0 + idL s 0) = .ok i a) (j : Nat) (u : Unit) (hjs : j ≤ s.size) (hk : needB s [40] i = .ok j u) (hv : isB s j 41 = false) (k : Nat) (l : List Ty) (hks : k ≤ s.size) (ht : pTys s (pOne s 12) (s.size + 1) [] j = .ok k l) (m : Nat) (u2 : Unit) (hm2 : m ≤ s.size) (hk2 : needB s [41] k = .ok m u2) (hlt : m < s.size) :
    Calls Tryd.prog 15 #[.string s] w fun r w' => r = .returned (.tuple #[.agg #[.slice none 0 0, .slice none 0 0], .int .i64 (m : Nat), .int .i64 8]) ∧ Below w.heap.size w w' := by
  have HP0 := hide (Ps.start w s 86)
  have h8 : decide ((8000 : Int) < (s.size : Int)) = false := by simp; omega
  obtain ⟨x, hx⟩ : ∃ x, s.extract 0 (0 + idL s 0) = x := ⟨_, rfl⟩
  obtain ⟨m0, hm0⟩ : ∃ m0, 0 + idL s 0 = m0 := ⟨_, rfl⟩
  have hm0s : m0 ≤ s.size := by rw [← hm0]; exact idL_le s 0 (Nat.zero_le _)
  have hxs : x.size ≤ 8000 := by rw [← hx]; exact ext_size _ _ _ hs
  rw [hx, hm0] at hn
  have HID := hide (show ∀ (W : World), W.heap[w.heap.size + 1]? = some (.cells #[.string s, .int .i64 (0 : Nat), .int .i64 (-1)] 86 (0, 0)) → Calls Tryd.prog 36 #[.pointer (some ⟨w.heap.size + 1, 0, none⟩)] W fun r w' => r = .returned (.string x) ∧ Pb (w.heap.size + 1) 86 s m0 (-1) W w' from fun W h => by have h1 := nIdent_onP (w.heap.size + 1) s 0 W hs (Nat.zero_le _) h; rw [idWr, if_neg hid, hx, hm0] at h1; exact h1)
  have HPR := hide (show ∀ (W : World), W.heap[w.heap.size + 1]? = some (.cells #[.string s, .int .i64 m0, .int .i64 (-1)] 86 (0, 0)) → Calls Tryd.prog 35 #[.pointer (some ⟨w.heap.size + 1, 0, none⟩), .string x, .int .i64 0] W fun r w' => ∃ (A : Option Addr) (n q : Nat), r = .returned (.slice A n q) ∧ Pb (w.heap.size + 1) 86 s i (-1) W w' ∧ PartsNew 12 W w' A n q a from fun W h => (nParts_of (nTys_ofP (nOneAll 12 (by decide))) (w.heap.size + 1) s x m0 0 W hs hxs hm0s (by decide) h).mono fun r w' ⟨A, n, q, h1, h2, h3⟩ => ⟨A, n, q, h1, h2.ok hn, h3 _ _ hn⟩)
  have HK1 := hide (show ∀ (W : World), W.heap[w.heap.size + 1]? = some (.cells #[.string s, .int .i64 i, .int .i64 (-1)] 86 (0, 0)) → Calls Tryd.prog 37 #[.pointer (some ⟨w.heap.size + 1, 0, none⟩), .string ⟨#[40]⟩] W fun r w' => r = .returned (.tuple #[]) ∧ Pb (w.heap.size + 1) 86 s j (-1) W w' from fun W h => (nTake_on (w.heap.size + 1) s ⟨#[40]⟩ i W hs (by decide) his h).mono fun r w' ⟨h1, h2⟩ => ⟨h1, h2.ok hk⟩)
  have HIS := hide (show ∀ (W : World), W.heap[w.heap.size + 1]? = some (.cells #[.string s, .int .i64 j, .int .i64 (-1)] 86 (0, 0)) → Calls Tryd.prog 38 #[.pointer (some ⟨w.heap.size + 1, 0, none⟩), .int .u8 41] W fun r w' => r = .returned (.bool false) ∧ Pb (w.heap.size + 1) 86 s j (-1) W w' from fun W h => nIs_no (w.heap.size + 1) s j 41 W hs hjs hv h)
  have HTC := hide (show ∀ (W : World), W.heap[w.heap.size + 1]? = some (.cells #[.string s, .int .i64 j, .int .i64 (-1)] 86 (0, 0)) → Calls Tryd.prog 39 #[.pointer (some ⟨w.heap.size + 1, 0, none⟩), .int .i64 0] W fun r w' => ∃ (A : Option Addr) (n q : Nat), r = .returned (.slice A n q) ∧ Pb (w.heap.size + 1) 86 s k (-1) W w' ∧ TysNew 12 W w' A n q l from fun W h => (nTys_ofP (nOneAll 12 (by decide)) (w.heap.size + 1) s j 0 W hs hjs (by decide) h).mono fun r w' ⟨A, n, q, h1, _, _, h2, h3⟩ => ⟨A, n, q, h1, h2.ok ht, h3 _ _ ht⟩)
  have HK2 := hide (show ∀ (W : World), W.heap[w.heap.size + 1]? = some (.cells #[.string s, .int .i64 k, .int .i64 (-1)] 86 (0, 0)) → Calls Tryd.prog 37 #[.pointer (some ⟨w.heap.size + 1, 0, none⟩), .string ⟨#[41]⟩] W fun r w' => r = .returned (.tuple #[]) ∧ Pb (w.heap.size + 1) 86 s m (-1) W w' from fun W h => (nTake_on (w.heap.size + 1) s ⟨#[41]⟩ k W hs (by decide) hks h).mono fun r w' ⟨h1, h2⟩ => ⟨h1, h2.ok hk2⟩)
  have HF := hide (show ∀ (W : World), W.heap[w.heap.size + 1]? = some (.cells #[.string s, .int .i64 m, .int .i64 (-1)] 86 (0, 0)) → Calls Tryd.prog 40 #[.pointer (some ⟨w.heap.size + 1, 0, none⟩), .int .i64 m] W fun r w' => r = .returned (.tuple #[]) ∧ Pb (w.heap.size + 1) 86 s m m W w' from fun W h => nFail_newP (w.heap.size + 1) s m m W h)
  have hoff : decide (((m : Nat) : Int) < 0) = false := by first | (simp; done) | (simp; omega)
  have hon : (0 : Int) ≤ ((m : Nat) : Int) := by omega
  have hlti : ((m : Nat) : Int) < (s.size : Int) := by omega
  clear hid hn hx hm0 hk hv ht hk2
  go_enter Tryd.func15, Tryd.ntmps15
  go_wp2_with (first
    | (go_at_call 36; ((with_reducible refine (HID.out _ HP0.out.box).mono ?_)); rintro r w1 ⟨rfl, hq1⟩; have HP1 := hide (HP0.out.call hq1); have c1 := HP1.out.pb.c1; have c2 := HP1.out.pb.c2; have y0 : w1.cell? ⟨w.heap.size + 1 + 1, 0, none⟩ = some (.slice none 0 0) := (block_cell HP1.out.sb 0).trans rfl; have y1 : w1.cell? ⟨w.heap.size + 1 + 1, 1, none⟩ = some (.slice none 0 0) := (block_cell HP1.out.sb 1).trans rfl; have yf0 : w1.frozen? ⟨w.heap.size + 1 + 1, 0, none⟩ = false := block_free HP1.out.sb 0; have yf1 : w1.frozen? ⟨w.heap.size + 1 + 1, 1, none⟩ = false := block_free HP1.out.sb 1; clear hq1)
    | (go_at_call 35; ((with_reducible refine (HPR.out _ HP1.out.box).mono ?_)); rintro r w2 ⟨A1, n1, q1, rfl, hq2, hpn⟩; have HP2 := hide (HP1.out.call hq2); have HTN := hide (NmS.of hpn HP1.out.lt); clear hpn; have c1 := HP2.out.pb.c1; have c2 := HP2.out.pb.c2; have y0 : w2.cell? ⟨w.heap.size + 1 + 1, 0, none⟩ = some (.slice none 0 0) := (block_cell HP2.out.sb 0).trans rfl; have y1 : w2.cell? ⟨w.heap.size + 1 + 1, 1, none⟩ = some (.slice none 0 0) := (block_cell HP2.out.sb 1).trans rfl; have yf0 : w2.frozen? ⟨w.heap.size + 1 + 1, 0, none⟩ = false := block_free HP2.out.sb 0; have yf1 : w2.frozen? ⟨w.heap.size + 1 + 1, 1, none⟩ = false := block_free HP2.out.sb 1; have HP2s := hide (HP2.out.set0 (.slice A1 n1 q1)); have HTNs := hide (HTN.out.stay (stay_s w w2 0 (.slice A1 n1 q1))); clear hq2)
    | (go_at_call 37; ((with_reducible refine (HK1.out _ HP2s.out.box).mono ?_)); rintro r w3 ⟨rfl, hq3⟩; have HP3 := hide (HP2s.out.call hq3); have HTnm3 := hide (HTNs.out.stay (stay_call hq3)); have c1 := HP3.out.pb.c1; have c2 := HP3.out.pb.c2; have y0 : w3.cell? ⟨w.heap.size + 1 + 1, 0, none⟩ = some (.slice A1 n1 q1) := (block_cell HP3.out.sb 0).trans rfl; have y1 : w3.cell? ⟨w.heap.size + 1 + 1, 1, none⟩ = some (.slice none 0 0) := (block_cell HP3.out.sb 1).trans rfl; have yf0 : w3.frozen? ⟨w.heap.size + 1 + 1, 0, none⟩ = false := block_free HP3.out.sb 0; have yf1 : w3.frozen? ⟨w.heap.size + 1 + 1, 1, none⟩ = false := block_free HP3.out.sb 1; clear hq3)
    | (go_at_call 38; ((with_reducible refine (HIS.out _ HP3.out.box).mono ?_)); rintro r w4 ⟨rfl, hq4⟩; have HP4 := hide (HP3.out.call hq4); have HTnm4 := hide (HTnm3.out.stay (stay_call hq4)); have c1 := HP4.out.pb.c1; have c2 := HP4.out.pb.c2; have y0 : w4.cell? ⟨w.heap.size + 1 + 1, 0, none⟩ = some (.slice A1 n1 q1) := (block_cell HP4.out.sb 0).trans rfl; have y1 : w4.cell? ⟨w.heap.size + 1 + 1, 1, none⟩ = some (.slice none 0 0) := (block_cell HP4.out.sb 1).trans rfl; have yf0 : w4.frozen? ⟨w.heap.size + 1 + 1, 0, none⟩ = false := block_free HP4.out.sb 0; have yf1 : w4.frozen? ⟨w.heap.size + 1 + 1, 1, none⟩ = false := block_free HP4.out.sb 1; clear hq4)
    | (go_at_call 39; ((with_reducible refine (HTC.out _ HP4.out.box).mono ?_)); rintro r w5 ⟨A2, n2, q2, rfl, hq5, htn⟩; have HP5 := hide (HP4.out.call hq5); have HTM := hide (TkS.of htn HP4.out.lt); clear htn; have HTnm5 := hide (HTnm4.out.stay (stay_call hq5)); have c1 := HP5.out.pb.c1; have c2 := HP5.out.pb.c2; have y0 : w5.cell? ⟨w.heap.size + 1 + 1, 0, none⟩ = some (.slice A1 n1 q1) := (block_cell HP5.out.sb 0).trans rfl; have y1 : w5.cell? ⟨w.heap.size + 1 + 1, 1, none⟩ = some (.slice none 0 0) := (block_cell HP5.out.sb 1).trans rfl; have yf0 : w5.frozen? ⟨w.heap.size + 1 + 1, 0, none⟩ = false := block_free HP5.out.sb 0; have yf1 : w5.frozen? ⟨w.heap.size + 1 + 1, 1, none⟩ = false := block_free HP5.out.sb 1; have HP5s := hide (HP5.out.set1 (.slice A2 n2 q2)); have HTnm5s := hide (HTnm5.out.stay (stay_s w w5 1 (.slice A2 n2 q2))); have HTMs := hide (HTM.out.stay (stay_s w w5 1 (.slice A2 n2 q2))); clear hq5)
    | (go_at_call 37; ((with_reducible refine (HK2.out _ HP5s.out.box).mono ?_)); rintro r w6 ⟨rfl, hq6⟩; have HP6 := hide (HP5s.out.call hq6); have HTnm6 := hide (HTnm5s.out.stay (stay_call hq6)); have HTtk6 := hide (HTMs.out.stay (stay_call hq6)); have c1 := HP6.out.pb.c1; have c2 := HP6.out.pb.c2; have y0 : w6.cell? ⟨w.heap.size + 1 + 1, 0, none⟩ = some (.slice A1 n1 q1) := (block_cell HP6.out.sb 0).trans rfl; have y1 : w6.cell? ⟨w.heap.size + 1 + 1, 1, none⟩ = some (.slice A2 n2 q2) := (block_cell HP6.out.sb 1).trans rfl; have yf0 : w6.frozen? ⟨w.heap.size + 1 + 1, 0, none⟩ = false := block_free HP6.out.sb 0; have yf1 : w6.frozen? ⟨w.heap.size + 1 + 1, 1, none⟩ = false := block_free HP6.out.sb 1; have z0 : w6.cell? ⟨w.heap.size, 0, none⟩ = some (.slice none 0 0) := (block_cell HP6.out.rb 0).trans rfl; have zf0 : w6.frozen? ⟨w.heap.size, 0, none⟩ = false := block_free HP6.out.rb 0; have z1 : w6.cell? ⟨w.heap.size, 1, none⟩ = some (.slice none 0 0) := (block_cell HP6.out.rb 1).trans rfl; have zf1 : w6.frozen? ⟨w.heap.size, 1, none⟩ = false := block_free HP6.out.rb 1; clear hq6)
    | (go_at_call 40; ((with_reducible refine (HF.out _ HP6.out.box).mono ?_)); rintro r w7 ⟨rfl, hq7⟩; have HP7 := hide (HP6.out.call hq7); have HTnm7 := hide (HTnm6.out.stay (stay_call hq7)); have HTtk7 := hide (HTtk6.out.stay (stay_call hq7)); have c1 := HP7.out.pb.c1; have c2 := HP7.out.pb.c2; have y0 : w7.cell? ⟨w.heap.size + 1 + 1, 0, none⟩ = some (.slice A1 n1 q1) := (block_cell HP7.out.sb 0).trans rfl; have y1 : w7.cell? ⟨w.heap.size + 1 + 1, 1, none⟩ = some (.slice A2 n2 q2) := (block_cell HP7.out.sb 1).trans rfl; have yf0 : w7.frozen? ⟨w.heap.size + 1 + 1, 0, none⟩ = false := block_free HP7.out.sb 0; have yf1 : w7.frozen? ⟨w.heap.size + 1 + 1, 1, none⟩ = false := block_free HP7.out.sb 1; have z0 : w7.cell? ⟨w.heap.size, 0, none⟩ = some (.slice none 0 0) := (block_cell HP7.out.rb 0).trans rfl; have zf0 : w7.frozen? ⟨w.heap.size, 0, none⟩ = false := block_free HP7.out.rb 0; have z1 : w7.cell? ⟨w.heap.size, 1, none⟩ = some (.slice none 0 0) := (block_cell HP7.out.rb 1).trans rfl; have zf1 : w7.frozen? ⟨w.heap.size, 1, none⟩ = false := block_free HP7.out.rb 1; clear hq7))
  go_region
  all_goals
    go_wp2_with (fail)
    have hbz := (show (((w7.setCell ⟨w.heap.size, 0, none⟩ (.slice none 0 0)).setCell ⟨w.heap.size, 1, none⟩ (.slice none 0 0))).drew.heap[w.heap.size]? = _ from block_set (block_set HP7.out.rb (i := 0) (.slice none 0 0)) (i := 1) (.slice none 0 0))
    have hbe := ((HP7.out.be.setCell (p := ⟨w.heap.size, 0, none⟩) (by simp) (.slice none 0 0)).setCell (p := ⟨w.heap.size, 1, none⟩) (by simp) (.slice none 0 0)).drew
    generalize (((w7.setCell ⟨w.heap.size, 0, none⟩ (.slice none 0 0)).setCell ⟨w.heap.size, 1, none⟩ (.slice none 0 0))).drew = wf at hbz hbe ⊢
    have r0 : wf.cell? ⟨w.heap.size, 0, none⟩ = some (.slice none 0 0) := (block_cell hbz 0).trans rfl
    have r1 : wf.cell? ⟨w.heap.size, 1, none⟩ = some (.slice none 0 0) := (block_cell hbz 1).trans rfl
    refine bodyPost_ret (by simp [results, Tryd.results15, go_sem, r0, r1]; try rfl) rfl ?_
    exact ⟨rfl, hbe⟩
set_option maxRecDepth 100000 in
set_option maxHeartbeats 16000000 in
theorem nParse_6t (s : ByteArray) (w : World) (hs : s.size ≤ 8000) (i : Nat) (a : List Part) (his : i ≤ s.size) (hid : idL s 0 ≠ 0) (hn : pParts s (pOne s 12) (s.size + 1) [] (s.extract 0 (0 + idL s 0)) (0 + idL s 0) = .ok i a) (j : Nat) (u : Unit) (hjs : j ≤ s.size) (hk : needB s [40] i = .ok j u) (hv : isB s j 41 = false) (k : Nat) (l : List Ty) (hks : k ≤ s.size) (ht : pTys s (pOne s 12) (s.size + 1) [] j = .ok k l) (m : Nat) (u2 : Unit) (hm2 : m ≤ s.size) (hk2 : needB s [41] k = .ok m u2) (hlt : ¬ m < s.size) (E : Int) (hE : (symE ⟨a, l⟩).1 = E) (h0 : E ≠ 0) :
    Calls Tryd.prog 15 #[.string s] w fun r w' => r = .returned (.tuple #[.agg #[.slice none 0 0, .slice none 0 0], .int .i64 0, .int .i64 E]) ∧ Below w.heap.size w w' := by
  have HP0 := hide (Ps.start w s 86)
  have h8 : decide ((8000 : Int) < (s.size : Int)) = false := by simp; omega
  obtain ⟨x, hx⟩ : ∃ x, s.extract 0 (0 + idL s 0) = x := ⟨_, rfl⟩
  obtain ⟨m0, hm0⟩ : ∃ m0, 0 + idL s 0 = m0 := ⟨_, rfl⟩
  have hm0s : m0 ≤ s.size := by rw [← hm0]; exact idL_le s 0 (Nat.zero_le _)
  have hxs : x.size ≤ 8000 := by rw [← hx]; exact ext_size _ _ _ hs
  rw [hx, hm0] at hn
  have HID := hide (show ∀ (W : World), W.heap[w.heap.size + 1]? = some (.cells #[.string s, .int .i64 (0 : Nat), .int .i64 (-1)] 86 (0, 0)) → Calls Tryd.prog 36 #[.pointer (some ⟨w.heap.size + 1, 0, none⟩)] W fun r w' => r = .returned (.string x) ∧ Pb (w.heap.size + 1) 86 s m0 (-1) W w' from fun W h => by have h1 := nIdent_onP (w.heap.size + 1) s 0 W hs (Nat.zero_le _) h; rw [idWr, if_neg hid, hx, hm0] at h1; exact h1)
  have HPR := hide (show ∀ (W : World), W.heap[w.heap.size + 1]? = some (.cells #[.string s, .int .i64 m0, .int .i64 (-1)] 86 (0, 0)) → Calls Tryd.prog 35 #[.pointer (some ⟨w.heap.size + 1, 0, none⟩), .string x, .int .i64 0] W fun r w' => ∃ (A : Option Addr) (n q : Nat), r = .returned (.slice A n q) ∧ Pb (w.heap.size + 1) 86 s i (-1) W w' ∧ PartsNew 12 W w' A n q a from fun W h => (nParts_of (nTys_ofP (nOneAll 12 (by decide))) (w.heap.size + 1) s x m0 0 W hs hxs hm0s (by decide) h).mono fun r w' ⟨A, n, q, h1, h2, h3⟩ => ⟨A, n, q, h1, h2.ok hn, h3 _ _ hn⟩)
  have HK1 := hide (show ∀ (W : World), W.heap[w.heap.size + 1]? = some (.cells #[.string s, .int .i64 i, .int .i64 (-1)] 86 (0, 0)) → Calls Tryd.prog 37 #[.pointer (some ⟨w.heap.size + 1, 0, none⟩), .string ⟨#[40]⟩] W fun r w' => r = .returned (.tuple #[]) ∧ Pb (w.heap.size + 1) 86 s j (-1) W w' from fun W h => (nTake_on (w.heap.size + 1) s ⟨#[40]⟩ i W hs (by decide) his h).mono fun r w' ⟨h1, h2⟩ => ⟨h1, h2.ok hk⟩)
  have HIS := hide (show ∀ (W : World), W.heap[w.heap.size + 1]? = some (.cells #[.string s, .int .i64 j, .int .i64 (-1)] 86 (0, 0)) → Calls Tryd.prog 38 #[.pointer (some ⟨w.heap.size + 1, 0, none⟩), .int .u8 41] W fun r w' => r = .returned (.bool false) ∧ Pb (w.heap.size + 1) 86 s j (-1) W w' from fun W h => nIs_no (w.heap.size + 1) s j 41 W hs hjs hv h)
  have HTC := hide (show ∀ (W : World), W.heap[w.heap.size + 1]? = some (.cells #[.string s, .int .i64 j, .int .i64 (-1)] 86 (0, 0)) → Calls Tryd.prog 39 #[.pointer (some ⟨w.heap.size + 1, 0, none⟩), .int .i64 0] W fun r w' => ∃ (A : Option Addr) (n q : Nat), r = .returned (.slice A n q) ∧ Pb (w.heap.size + 1) 86 s k (-1) W w' ∧ TysNew 12 W w' A n q l from fun W h => (nTys_ofP (nOneAll 12 (by decide)) (w.heap.size + 1) s j 0 W hs hjs (by decide) h).mono fun r w' ⟨A, n, q, h1, _, _, h2, h3⟩ => ⟨A, n, q, h1, h2.ok ht, h3 _ _ ht⟩)
  have HK2 := hide (show ∀ (W : World), W.heap[w.heap.size + 1]? = some (.cells #[.string s, .int .i64 k, .int .i64 (-1)] 86 (0, 0)) → Calls Tryd.prog 37 #[.pointer (some ⟨w.heap.size + 1, 0, none⟩), .string ⟨#[41]⟩] W fun r w' => r = .returned (.tuple #[]) ∧ Pb (w.heap.size + 1) 86 s m (-1) W w' from fun W h => (nTake_on (w.heap.size + 1) s ⟨#[41]⟩ k W hs (by decide) hks h).mono fun r w' ⟨h1, h2⟩ => ⟨h1, h2.ok hk2⟩)
  have hlti : decide (((m : Nat) : Int) < (s.size : Int)) = false := by simp; omega
  have hltn : decide (m < s.size) = false := by simp; omega
  have HCK := hide (show ∀ (A : Option Addr) (n q : Nat) (A' : Option Addr) (n' q' : Nat) (W : World), SymIn W 12 ⟨a, l⟩ [.slice A n q, .slice A' n' q'] → Calls Tryd.prog 16 #[.agg #[.slice A n q, .slice A' n' q']] W fun r w' => r = .returned (.int .i64 E) ∧ Below W.heap.size W w' from fun A n q A' n' q' W h => by have h1 := Check_any 12 ⟨a, l⟩ _ W h; rw [hE] at h1; exact h1)
  have h0' : (E == 0) = false := by simpa using h0
  clear hid hn hx hm0 hk hv ht hk2 h0 hE
  go_enter Tryd.func15, Tryd.ntmps15
  go_wp2_with (first
    | (go_at_call 36; ((with_reducible refine (HID.out _ HP0.out.box).mono ?_)); rintro r w1 ⟨rfl, hq1⟩; have HP1 := hide (HP0.out.call hq1); have c1 := HP1.out.pb.c1; have c2 := HP1.out.pb.c2; have y0 : w1.cell? ⟨w.heap.size + 1 + 1, 0, none⟩ = some (.slice none 0 0) := (block_cell HP1.out.sb 0).trans rfl; have y1 : w1.cell? ⟨w.heap.size + 1 + 1, 1, none⟩ = some (.slice none 0 0) := (block_cell HP1.out.sb 1).trans rfl; have yf0 : w1.frozen? ⟨w.heap.size + 1 + 1, 0, none⟩ = false := block_free HP1.out.sb 0; have yf1 : w1.frozen? ⟨w.heap.size + 1 + 1, 1, none⟩ = false := block_free HP1.out.sb 1; clear hq1)
    | (go_at_call 35; ((with_reducible refine (HPR.out _ HP1.out.box).mono ?_)); rintro r w2 ⟨A1, n1, q1, rfl, hq2, hpn⟩; have HP2 := hide (HP1.out.call hq2); have HTN := hide (NmS.of hpn HP1.out.lt); clear hpn; have c1 := HP2.out.pb.c1; have c2 := HP2.out.pb.c2; have y0 : w2.cell? ⟨w.heap.size + 1 + 1, 0, none⟩ = some (.slice none 0 0) := (block_cell HP2.out.sb 0).trans rfl; have y1 : w2.cell? ⟨w.heap.size + 1 + 1, 1, none⟩ = some (.slice none 0 0) := (block_cell HP2.out.sb 1).trans rfl; have yf0 : w2.frozen? ⟨w.heap.size + 1 + 1, 0, none⟩ = false := block_free HP2.out.sb 0; have yf1 : w2.frozen? ⟨w.heap.size + 1 + 1, 1, none⟩ = false := block_free HP2.out.sb 1; have HP2s := hide (HP2.out.set0 (.slice A1 n1 q1)); have HTNs := hide (HTN.out.stay (stay_s w w2 0 (.slice A1 n1 q1))); clear hq2)
    | (go_at_call 37; ((with_reducible refine (HK1.out _ HP2s.out.box).mono ?_)); rintro r w3 ⟨rfl, hq3⟩; have HP3 := hide (HP2s.out.call hq3); have HTnm3 := hide (HTNs.out.stay (stay_call hq3)); have c1 := HP3.out.pb.c1; have c2 := HP3.out.pb.c2; have y0 : w3.cell? ⟨w.heap.size + 1 + 1, 0, none⟩ = some (.slice A1 n1 q1) := (block_cell HP3.out.sb 0).trans rfl; have y1 : w3.cell? ⟨w.heap.size + 1 + 1, 1, none⟩ = some (.slice none 0 0) := (block_cell HP3.out.sb 1).trans rfl; have yf0 : w3.frozen? ⟨w.heap.size + 1 + 1, 0, none⟩ = false := block_free HP3.out.sb 0; have yf1 : w3.frozen? ⟨w.heap.size + 1 + 1, 1, none⟩ = false := block_free HP3.out.sb 1; clear hq3)
    | (go_at_call 38; ((with_reducible refine (HIS.out _ HP3.out.box).mono ?_)); rintro r w4 ⟨rfl, hq4⟩; have HP4 := hide (HP3.out.call hq4); have HTnm4 := hide (HTnm3.out.stay (stay_call hq4)); have c1 := HP4.out.pb.c1; have c2 := HP4.out.pb.c2; have y0 : w4.cell? ⟨w.heap.size + 1 + 1, 0, none⟩ = some (.slice A1 n1 q1) := (block_cell HP4.out.sb 0).trans rfl; have y1 : w4.cell? ⟨w.heap.size + 1 + 1, 1, none⟩ = some (.slice none 0 0) := (block_cell HP4.out.sb 1).trans rfl; have yf0 : w4.frozen? ⟨w.heap.size + 1 + 1, 0, none⟩ = false := block_free HP4.out.sb 0; have yf1 : w4.frozen? ⟨w.heap.size + 1 + 1, 1, none⟩ = false := block_free HP4.out.sb 1; clear hq4)
    | (go_at_call 39; ((with_reducible refine (HTC.out _ HP4.out.box).mono ?_)); rintro r w5 ⟨A2, n2, q2, rfl, hq5, htn⟩; have HP5 := hide (HP4.out.call hq5); have HTM := hide (TkS.of htn HP4.out.lt); clear htn; have HTnm5 := hide (HTnm4.out.stay (stay_call hq5)); have c1 := HP5.out.pb.c1; have c2 := HP5.out.pb.c2; have y0 : w5.cell? ⟨w.heap.size + 1 + 1, 0, none⟩ = some (.slice A1 n1 q1) := (block_cell HP5.out.sb 0).trans rfl; have y1 : w5.cell? ⟨w.heap.size + 1 + 1, 1, none⟩ = some (.slice none 0 0) := (block_cell HP5.out.sb 1).trans rfl; have yf0 : w5.frozen? ⟨w.heap.size + 1 + 1, 0, none⟩ = false := block_free HP5.out.sb 0; have yf1 : w5.frozen? ⟨w.heap.size + 1 + 1, 1, none⟩ = false := block_free HP5.out.sb 1; have HP5s := hide (HP5.out.set1 (.slice A2 n2 q2)); have HTnm5s := hide (HTnm5.out.stay (stay_s w w5 1 (.slice A2 n2 q2))); have HTMs := hide (HTM.out.stay (stay_s w w5 1 (.slice A2 n2 q2))); clear hq5)
    | (go_at_call 37; ((with_reducible refine (HK2.out _ HP5s.out.box).mono ?_)); rintro r w6 ⟨rfl, hq6⟩; have HP6 := hide (HP5s.out.call hq6); have HTnm6 := hide (HTnm5s.out.stay (stay_call hq6)); have HTtk6 := hide (HTMs.out.stay (stay_call hq6)); have c1 := HP6.out.pb.c1; have c2 := HP6.out.pb.c2; have y0 : w6.cell? ⟨w.heap.size + 1 + 1, 0, none⟩ = some (.slice A1 n1 q1) := (block_cell HP6.out.sb 0).trans rfl; have y1 : w6.cell? ⟨w.heap.size + 1 + 1, 1, none⟩ = some (.slice A2 n2 q2) := (block_cell HP6.out.sb 1).trans rfl; have yf0 : w6.frozen? ⟨w.heap.size + 1 + 1, 0, none⟩ = false := block_free HP6.out.sb 0; have yf1 : w6.frozen? ⟨w.heap.size + 1 + 1, 1, none⟩ = false := block_free HP6.out.sb 1; have z0 : w6.cell? ⟨w.heap.size, 0, none⟩ = some (.slice none 0 0) := (block_cell HP6.out.rb 0).trans rfl; have zf0 : w6.frozen? ⟨w.heap.size, 0, none⟩ = false := block_free HP6.out.rb 0; have z1 : w6.cell? ⟨w.heap.size, 1, none⟩ = some (.slice none 0 0) := (block_cell HP6.out.rb 1).trans rfl; have zf1 : w6.frozen? ⟨w.heap.size, 1, none⟩ = false := block_free HP6.out.rb 1; clear hq6)
    | (go_at_call 16; refine (HCK.out _ _ _ _ _ _ _ (sym_of HTnm6.out (HTtk6.out))).mono ?_; rintro r w7 ⟨rfl, hwk⟩; have HBE := hide (HP6.out.be.trans (hwk.mono HP6.out.be.size)); have HRB := hide (block_below HP6.out.rb hwk); have HSB := hide (block_below HP6.out.sb hwk); have HNM := hide (HTnm6.out.stay (stay_b hwk)); have HTKK := hide ((HTtk6.out).stay (w := w) (stay_b hwk)); have z0 : w7.cell? ⟨w.heap.size, 0, none⟩ = some (.slice none 0 0) := (block_cell HRB.out 0).trans rfl; have zf0 : w7.frozen? ⟨w.heap.size, 0, none⟩ = false := block_free HRB.out 0; have z1 : w7.cell? ⟨w.heap.size, 1, none⟩ = some (.slice none 0 0) := (block_cell HRB.out 1).trans rfl; have zf1 : w7.frozen? ⟨w.heap.size, 1, none⟩ = false := block_free HRB.out 1; have y0 : w7.cell? ⟨w.heap.size + 1 + 1, 0, none⟩ = some (.slice A1 n1 q1) := (block_cell HSB.out 0).trans rfl; have y1 : w7.cell? ⟨w.heap.size + 1 + 1, 1, none⟩ = some (.slice A2 n2 q2) := (block_cell HSB.out 1).trans rfl; clear hwk))
  have hbz := block_set (block_set HRB.out (i := 0) (.slice none 0 0)) (i := 1) (.slice none 0 0)
  have hbe := (HBE.out.setCell (p := ⟨w.heap.size, 0, none⟩) (by simp) (.slice none 0 0)).setCell (p := ⟨w.heap.size, 1, none⟩) (by simp) (.slice none 0 0)
  generalize ((w7.setCell ⟨w.heap.size, 0, none⟩ (.slice none 0 0)).setCell ⟨w.heap.size, 1, none⟩ (.slice none 0 0)) = wf at hbz hbe ⊢
  have r0 : wf.cell? ⟨w.heap.size, 0, none⟩ = some (.slice none 0 0) := (block_cell hbz 0).trans rfl
  have r1 : wf.cell? ⟨w.heap.size, 1, none⟩ = some (.slice none 0 0) := (block_cell hbz 1).trans rfl
  refine bodyPost_ret (by simp [results, Tryd.results15, go_sem, r0, r1]; try rfl) rfl ?_
  exact ⟨rfl, hbe⟩
set_option maxRecDepth 100000 in
set_option maxHeartbeats 16000000 in
theorem nParse_7t (s : ByteArray) (w : World) (hs : s.size ≤ 8000) (i : Nat) (a : List Part) (his : i ≤ s.size) (hid : idL s 0 ≠ 0) (hn : pParts s (pOne s 12) (s.size + 1) [] (s.extract 0 (0 + idL s 0)) (0 + idL s 0) = .ok i a) (j : Nat) (u : Unit) (hjs : j ≤ s.size) (hk : needB s [40] i = .ok j u) (hv : isB s j 41 = false) (k : Nat) (l : List Ty) (hks : k ≤ s.size) (ht : pTys s (pOne s 12) (s.size + 1) [] j = .ok k l) (m : Nat) (u2 : Unit) (hm2 : m ≤ s.size) (hk2 : needB s [41] k = .ok m u2) (hlt : ¬ m < s.size) (hE : (symE ⟨a, l⟩).1 = 0) :
    Calls Tryd.prog 15 #[.string s] w fun r w' => (∃ (A : Option Addr) (n q : Nat) (A' : Option Addr) (n' q' : Nat), r = .returned (.tuple #[.agg #[.slice A n q, .slice A' n' q'], .int .i64 0, .int .i64 0]) ∧ SymIn w' 12 ⟨a, l⟩ [.slice A n q, .slice A' n' q']) ∧ Below w.heap.size w w' := by
  have HP0 := hide (Ps.start w s 86)
  have h8 : decide ((8000 : Int) < (s.size : Int)) = false := by simp; omega
  obtain ⟨x, hx⟩ : ∃ x, s.extract 0 (0 + idL s 0) = x := ⟨_, rfl⟩
  obtain ⟨m0, hm0⟩ : ∃ m0, 0 + idL s 0 = m0 := ⟨_, rfl⟩
  have hm0s : m0 ≤ s.size := by rw [← hm0]; exact idL_le s 0 (Nat.zero_le _)
  have hxs : x.size ≤ 8000 := by rw [← hx]; exact ext_size _ _ _ hs
  rw [hx, hm0] at hn
  have HID := hide (show ∀ (W : World), W.heap[w.heap.size + 1]? = some (.cells #[.string s, .int .i64 (0 : Nat), .int .i64 (-1)] 86 (0, 0)) → Calls Tryd.prog 36 #[.pointer (some ⟨w.heap.size + 1, 0, none⟩)] W fun r w' => r = .returned (.string x) ∧ Pb (w.heap.size + 1) 86 s m0 (-1) W w' from fun W h => by have h1 := nIdent_onP (w.heap.size + 1) s 0 W hs (Nat.zero_le _) h; rw [idWr, if_neg hid, hx, hm0] at h1; exact h1)
  have HPR := hide (show ∀ (W : World), W.heap[w.heap.size + 1]? = some (.cells #[.string s, .int .i64 m0, .int .i64 (-1)] 86 (0, 0)) → Calls Tryd.prog 35 #[.pointer (some ⟨w.heap.size + 1, 0, none⟩), .string x, .int .i64 0] W fun r w' => ∃ (A : Option Addr) (n q : Nat), r = .returned (.slice A n q) ∧ Pb (w.heap.size + 1) 86 s i (-1) W w' ∧ PartsNew 12 W w' A n q a from fun W h => (nParts_of (nTys_ofP (nOneAll 12 (by decide))) (w.heap.size + 1) s x m0 0 W hs hxs hm0s (by decide) h).mono fun r w' ⟨A, n, q, h1, h2, h3⟩ => ⟨A, n, q, h1, h2.ok hn, h3 _ _ hn⟩)
  have HK1 := hide (show ∀ (W : World), W.heap[w.heap.size + 1]? = some (.cells #[.string s, .int .i64 i, .int .i64 (-1)] 86 (0, 0)) → Calls Tryd.prog 37 #[.pointer (some ⟨w.heap.size + 1, 0, none⟩), .string ⟨#[40]⟩] W fun r w' => r = .returned (.tuple #[]) ∧ Pb (w.heap.size + 1) 86 s j (-1) W w' from fun W h => (nTake_on (w.heap.size + 1) s ⟨#[40]⟩ i W hs (by decide) his h).mono fun r w' ⟨h1, h2⟩ => ⟨h1, h2.ok hk⟩)
  have HIS := hide (show ∀ (W : World), W.heap[w.heap.size + 1]? = some (.cells #[.string s, .int .i64 j, .int .i64 (-1)] 86 (0, 0)) → Calls Tryd.prog 38 #[.pointer (some ⟨w.heap.size + 1, 0, none⟩), .int .u8 41] W fun r w' => r = .returned (.bool false) ∧ Pb (w.heap.size + 1) 86 s j (-1) W w' from fun W h => nIs_no (w.heap.size + 1) s j 41 W hs hjs hv h)
  have HTC := hide (show ∀ (W : World), W.heap[w.heap.size + 1]? = some (.cells #[.string s, .int .i64 j, .int .i64 (-1)] 86 (0, 0)) → Calls Tryd.prog 39 #[.pointer (some ⟨w.heap.size + 1, 0, none⟩), .int .i64 0] W fun r w' => ∃ (A : Option Addr) (n q : Nat), r = .returned (.slice A n q) ∧ Pb (w.heap.size + 1) 86 s k (-1) W w' ∧ TysNew 12 W w' A n q l from fun W h => (nTys_ofP (nOneAll 12 (by decide)) (w.heap.size + 1) s j 0 W hs hjs (by decide) h).mono fun r w' ⟨A, n, q, h1, _, _, h2, h3⟩ => ⟨A, n, q, h1, h2.ok ht, h3 _ _ ht⟩)
  have HK2 := hide (show ∀ (W : World), W.heap[w.heap.size + 1]? = some (.cells #[.string s, .int .i64 k, .int .i64 (-1)] 86 (0, 0)) → Calls Tryd.prog 37 #[.pointer (some ⟨w.heap.size + 1, 0, none⟩), .string ⟨#[41]⟩] W fun r w' => r = .returned (.tuple #[]) ∧ Pb (w.heap.size + 1) 86 s m (-1) W w' from fun W h => (nTake_on (w.heap.size + 1) s ⟨#[41]⟩ k W hs (by decide) hks h).mono fun r w' ⟨h1, h2⟩ => ⟨h1, h2.ok hk2⟩)
  have hlti : decide (((m : Nat) : Int) < (s.size : Int)) = false := by simp; omega
  have hltn : decide (m < s.size) = false := by simp; omega
  have HCK := hide (show ∀ (A : Option Addr) (n q : Nat) (A' : Option Addr) (n' q' : Nat) (W : World), SymIn W 12 ⟨a, l⟩ [.slice A n q, .slice A' n' q'] → Calls Tryd.prog 16 #[.agg #[.slice A n q, .slice A' n' q']] W fun r w' => r = .returned (.int .i64 0) ∧ Below W.heap.size W w' from fun A n q A' n' q' W h => by have h1 := Check_any 12 ⟨a, l⟩ _ W h; rw [hE] at h1; exact h1)
  clear hid hn hx hm0 hk hv ht hk2 hE
  go_enter Tryd.func15, Tryd.ntmps15
  go_wp2_with (first
    | (go_at_call 36; ((with_reducible refine (HID.out _ HP0.out.box).mono ?_)); rintro r w1 ⟨rfl, hq1⟩; have HP1 := hide (HP0.out.call hq1); have c1 := HP1.out.pb.c1; have c2 := HP1.out.pb.c2; have y0 : w1.cell? ⟨w.heap.size + 1 + 1, 0, none⟩ = some (.slice none 0 0) := (block_cell HP1.out.sb 0).trans rfl; have y1 : w1.cell? ⟨w.heap.size + 1 + 1, 1, none⟩ = some (.slice none 0 0) := (block_cell HP1.out.sb 1).trans rfl; have yf0 : w1.frozen? ⟨w.heap.size + 1 + 1, 0, none⟩ = false := block_free HP1.out.sb 0; have yf1 : w1.frozen? ⟨w.heap.size + 1 + 1, 1, none⟩ = false := block_free HP1.out.sb 1; clear hq1)
    | (go_at_call 35; ((with_reducible refine (HPR.out _ HP1.out.box).mono ?_)); rintro r w2 ⟨A1, n1, q1, rfl, hq2, hpn⟩; have HP2 := hide (HP1.out.call hq2); have HTN := hide (NmS.of hpn HP1.out.lt); clear hpn; have c1 := HP2.out.pb.c1; have c2 := HP2.out.pb.c2; have y0 : w2.cell? ⟨w.heap.size + 1 + 1, 0, none⟩ = some (.slice none 0 0) := (block_cell HP2.out.sb 0).trans rfl; have y1 : w2.cell? ⟨w.heap.size + 1 + 1, 1, none⟩ = some (.slice none 0 0) := (block_cell HP2.out.sb 1).trans rfl; have yf0 : w2.frozen? ⟨w.heap.size + 1 + 1, 0, none⟩ = false := block_free HP2.out.sb 0; have yf1 : w2.frozen? ⟨w.heap.size + 1 + 1, 1, none⟩ = false := block_free HP2.out.sb 1; have HP2s := hide (HP2.out.set0 (.slice A1 n1 q1)); have HTNs := hide (HTN.out.stay (stay_s w w2 0 (.slice A1 n1 q1))); clear hq2)
    | (go_at_call 37; ((with_reducible refine (HK1.out _ HP2s.out.box).mono ?_)); rintro r w3 ⟨rfl, hq3⟩; have HP3 := hide (HP2s.out.call hq3); have HTnm3 := hide (HTNs.out.stay (stay_call hq3)); have c1 := HP3.out.pb.c1; have c2 := HP3.out.pb.c2; have y0 : w3.cell? ⟨w.heap.size + 1 + 1, 0, none⟩ = some (.slice A1 n1 q1) := (block_cell HP3.out.sb 0).trans rfl; have y1 : w3.cell? ⟨w.heap.size + 1 + 1, 1, none⟩ = some (.slice none 0 0) := (block_cell HP3.out.sb 1).trans rfl; have yf0 : w3.frozen? ⟨w.heap.size + 1 + 1, 0, none⟩ = false := block_free HP3.out.sb 0; have yf1 : w3.frozen? ⟨w.heap.size + 1 + 1, 1, none⟩ = false := block_free HP3.out.sb 1; clear hq3)
    | (go_at_call 38; ((with_reducible refine (HIS.out _ HP3.out.box).mono ?_)); rintro r w4 ⟨rfl, hq4⟩; have HP4 := hide (HP3.out.call hq4); have HTnm4 := hide (HTnm3.out.stay (stay_call hq4)); have c1 := HP4.out.pb.c1; have c2 := HP4.out.pb.c2; have y0 : w4.cell? ⟨w.heap.size + 1 + 1, 0, none⟩ = some (.slice A1 n1 q1) := (block_cell HP4.out.sb 0).trans rfl; have y1 : w4.cell? ⟨w.heap.size + 1 + 1, 1, none⟩ = some (.slice none 0 0) := (block_cell HP4.out.sb 1).trans rfl; have yf0 : w4.frozen? ⟨w.heap.size + 1 + 1, 0, none⟩ = false := block_free HP4.out.sb 0; have yf1 : w4.frozen? ⟨w.heap.size + 1 + 1, 1, none⟩ = false := block_free HP4.out.sb 1; clear hq4)
    | (go_at_call 39; ((with_reducible refine (HTC.out _ HP4.out.box).mono ?_)); rintro r w5 ⟨A2, n2, q2, rfl, hq5, htn⟩; have HP5 := hide (HP4.out.call hq5); have HTM := hide (TkS.of htn HP4.out.lt); clear htn; have HTnm5 := hide (HTnm4.out.stay (stay_call hq5)); have c1 := HP5.out.pb.c1; have c2 := HP5.out.pb.c2; have y0 : w5.cell? ⟨w.heap.size + 1 + 1, 0, none⟩ = some (.slice A1 n1 q1) := (block_cell HP5.out.sb 0).trans rfl; have y1 : w5.cell? ⟨w.heap.size + 1 + 1, 1, none⟩ = some (.slice none 0 0) := (block_cell HP5.out.sb 1).trans rfl; have yf0 : w5.frozen? ⟨w.heap.size + 1 + 1, 0, none⟩ = false := block_free HP5.out.sb 0; have yf1 : w5.frozen? ⟨w.heap.size + 1 + 1, 1, none⟩ = false := block_free HP5.out.sb 1; have HP5s := hide (HP5.out.set1 (.slice A2 n2 q2)); have HTnm5s := hide (HTnm5.out.stay (stay_s w w5 1 (.slice A2 n2 q2))); have HTMs := hide (HTM.out.stay (stay_s w w5 1 (.slice A2 n2 q2))); clear hq5)
    | (go_at_call 37; ((with_reducible refine (HK2.out _ HP5s.out.box).mono ?_)); rintro r w6 ⟨rfl, hq6⟩; have HP6 := hide (HP5s.out.call hq6); have HTnm6 := hide (HTnm5s.out.stay (stay_call hq6)); have HTtk6 := hide (HTMs.out.stay (stay_call hq6)); have c1 := HP6.out.pb.c1; have c2 := HP6.out.pb.c2; have y0 : w6.cell? ⟨w.heap.size + 1 + 1, 0, none⟩ = some (.slice A1 n1 q1) := (block_cell HP6.out.sb 0).trans rfl; have y1 : w6.cell? ⟨w.heap.size + 1 + 1, 1, none⟩ = some (.slice A2 n2 q2) := (block_cell HP6.out.sb 1).trans rfl; have yf0 : w6.frozen? ⟨w.heap.size + 1 + 1, 0, none⟩ = false := block_free HP6.out.sb 0; have yf1 : w6.frozen? ⟨w.heap.size + 1 + 1, 1, none⟩ = false := block_free HP6.out.sb 1; have z0 : w6.cell? ⟨w.heap.size, 0, none⟩ = some (.slice none 0 0) := (block_cell HP6.out.rb 0).trans rfl; have zf0 : w6.frozen? ⟨w.heap.size, 0, none⟩ = false := block_free HP6.out.rb 0; have z1 : w6.cell? ⟨w.heap.size, 1, none⟩ = some (.slice none 0 0) := (block_cell HP6.out.rb 1).trans rfl; have zf1 : w6.frozen? ⟨w.heap.size, 1, none⟩ = false := block_free HP6.out.rb 1; clear hq6)
    | (go_at_call 16; refine (HCK.out _ _ _ _ _ _ _ (sym_of HTnm6.out (HTtk6.out))).mono ?_; rintro r w7 ⟨rfl, hwk⟩; have HBE := hide (HP6.out.be.trans (hwk.mono HP6.out.be.size)); have HRB := hide (block_below HP6.out.rb hwk); have HSB := hide (block_below HP6.out.sb hwk); have HNM := hide (HTnm6.out.stay (stay_b hwk)); have HTKK := hide ((HTtk6.out).stay (w := w) (stay_b hwk)); have z0 : w7.cell? ⟨w.heap.size, 0, none⟩ = some (.slice none 0 0) := (block_cell HRB.out 0).trans rfl; have zf0 : w7.frozen? ⟨w.heap.size, 0, none⟩ = false := block_free HRB.out 0; have z1 : w7.cell? ⟨w.heap.size, 1, none⟩ = some (.slice none 0 0) := (block_cell HRB.out 1).trans rfl; have zf1 : w7.frozen? ⟨w.heap.size, 1, none⟩ = false := block_free HRB.out 1; have y0 : w7.cell? ⟨w.heap.size + 1 + 1, 0, none⟩ = some (.slice A1 n1 q1) := (block_cell HSB.out 0).trans rfl; have y1 : w7.cell? ⟨w.heap.size + 1 + 1, 1, none⟩ = some (.slice A2 n2 q2) := (block_cell HSB.out 1).trans rfl; clear hwk))
  have hbz := block_set (block_set HRB.out (i := 0) (.slice A1 n1 q1)) (i := 1) (.slice A2 n2 q2)
  have hbe := (HBE.out.setCell (p := ⟨w.heap.size, 0, none⟩) (by simp) (.slice A1 n1 q1)).setCell (p := ⟨w.heap.size, 1, none⟩) (by simp) (.slice A2 n2 q2)
  have hst := stay_rb w w7 (.slice A1 n1 q1) (.slice A2 n2 q2)
  generalize ((w7.setCell ⟨w.heap.size, 0, none⟩ (.slice A1 n1 q1)).setCell ⟨w.heap.size, 1, none⟩ (.slice A2 n2 q2)) = wf at hbz hbe hst ⊢
  have r0 : wf.cell? ⟨w.heap.size, 0, none⟩ = some (.slice A1 n1 q1) := (block_cell hbz 0).trans rfl
  have r1 : wf.cell? ⟨w.heap.size, 1, none⟩ = some (.slice A2 n2 q2) := (block_cell hbz 1).trans rfl
  refine bodyPost_ret (by simp [results, Tryd.results15, go_sem, r0, r1]; try rfl) rfl ?_
  exact ⟨⟨_, _, _, _, _, _, rfl, sym_of (HNM.out.stay hst) (HTKK.out.stay hst)⟩, hbe⟩
end Go.Proofs.YtocpmbpckbjepaaDoor

/- What Parse and Parsed answer (printed by gen_pr.py). -/
namespace Go.Proofs.YtocpmbpckbjepaaDoor
open Go.RowKit
set_option linter.unusedVariables false
set_option linter.unusedSimpArgs false
/-- What is answered, and that all below stays. -/
def PsOut (s : ByteArray) (w : World) (r : Ending) (w' : World) : Prop :=
  (∃ (A : Option Addr) (n q : Nat) (A' : Option Addr) (n' q' : Nat), r = .returned (.tuple #[.agg #[.slice A n q, .slice A' n' q'], .int .i64 (psN s), .int .i64 (psE s)]) ∧ SymIn w' 12 (psS s) [.slice A n q, .slice A' n' q']) ∧ Below w.heap.size w w'
section
variable {s : ByteArray} {w : World}
theorem out_bad {e : Nat} (hs : s.size ≤ 8000) (hp : pSym s = .bad e) : ∀ r w', (r = .returned (.tuple #[.agg #[.slice none 0 0, .slice none 0 0], .int .i64 (e : Nat), .int .i64 8]) ∧ Below w.heap.size w w') → PsOut s w r w' := fun r w' ⟨h1, h2⟩ => by
  obtain ⟨a, b, c⟩ := ps_bad hs hp
  unfold PsOut
  rw [a, b, c]
  exact ⟨⟨_, _, _, _, _, _, h1, nullSym_in _ _⟩, h2⟩
theorem out_no {i : Nat} {a : Sym} {E : Int} (hs : s.size ≤ 8000) (hp : pSym s = .ok i a) (hE : (symE a).1 = E) (h0 : E ≠ 0) : ∀ r w', (r = .returned (.tuple #[.agg #[.slice none 0 0, .slice none 0 0], .int .i64 0, .int .i64 E]) ∧ Below w.heap.size w w') → PsOut s w r w' := fun r w' ⟨h1, h2⟩ => by
  obtain ⟨x, b, c⟩ := ps_no hs hp (by rw [hE]; exact h0)
  unfold PsOut
  rw [x, b, c, hE]
  exact ⟨⟨_, _, _, _, _, _, h1, nullSym_in _ _⟩, h2⟩
theorem out_ok {i : Nat} {a : List Part} {l : List Ty} (hs : s.size ≤ 8000) (hp : pSym s = .ok i ⟨a, l⟩) (hE : (symE ⟨a, l⟩).1 = 0) :
    ∀ r w', ((∃ (A : Option Addr) (n q : Nat) (A' : Option Addr) (n' q' : Nat), r = .returned (.tuple #[.agg #[.slice A n q, .slice A' n' q'], .int .i64 0, .int .i64 0]) ∧ SymIn w' 12 ⟨a, l⟩ [.slice A n q, .slice A' n' q']) ∧ Below w.heap.size w w') → PsOut s w r w' := fun r w' ⟨h1, h2⟩ => by
  obtain ⟨x, b, c⟩ := ps_ok hs hp hE
  unfold PsOut
  rw [x, b, c]
  exact ⟨h1, h2⟩
theorem pName_no (h : idL s 0 = 0) : pName s = .bad 0 := by rw [pName, if_pos h]
theorem pName_is (h : idL s 0 ≠ 0) : pName s = pParts s (pOne s 12) (s.size + 1) [] (s.extract 0 (0 + idL s 0)) (0 + idL s 0) := by rw [pName, if_neg h]
theorem pName_next : pName s = pNext s (pOne s 12) (s.size + 1) [] 0 := rfl
end
set_option maxHeartbeats 4000000 in
theorem nParse_big (s : ByteArray) (w : World) (hs : s.size ≤ maxLen) (h8 : 8000 < s.size) :
    Calls Tryd.prog 15 #[.string s] w fun r w' => r = .returned (.tuple #[.agg #[.slice none 0 0, .slice none 0 0], .int .i64 0, .int .i64 4]) ∧ Below w.heap.size w w' := by
  unfold maxLen at hs
  have h8i : (8000 : Int) < (s.size : Int) := by omega
  have HX := hide (heap_alloc_new w (.cells #[.slice none 0 0, .slice none 0 0] 25))
  have HBE := hide (show Below w.heap.size w (w.alloc (.cells #[.slice none 0 0, .slice none 0 0] 25)) from (Below.refl _ _).alloc (Nat.le_refl _) _)
  go_enter Tryd.func15, Tryd.ntmps15
  go_wp2_with (fail)
  have hbz := block_set (block_set HX.out (i := 0) (.slice none 0 0)) (i := 1) (.slice none 0 0)
  have hbe := (HBE.out.setCell (p := ⟨w.heap.size, 0, none⟩) (by simp) (.slice none 0 0)).setCell (p := ⟨w.heap.size, 1, none⟩) (by simp) (.slice none 0 0)
  first
  | (generalize (((w.alloc (.cells #[.slice none 0 0, .slice none 0 0] 25)).setCell ⟨w.heap.size, 0, none⟩ (.slice none 0 0)).setCell ⟨w.heap.size, 1, none⟩ (.slice none 0 0)) = wf at hbz hbe ⊢
     have r0 : wf.cell? ⟨w.heap.size, 0, none⟩ = some (.slice none 0 0) := (block_cell hbz 0).trans rfl
     have r1 : wf.cell? ⟨w.heap.size, 1, none⟩ = some (.slice none 0 0) := (block_cell hbz 1).trans rfl
     refine bodyPost_ret (by simp [results, Tryd.results15, go_sem, r0, r1]; try rfl) rfl ?_
     exact ⟨rfl, hbe⟩)
  | (refine bodyPost_ret (by simp [results, Tryd.results15, go_sem]; try rfl) rfl ?_
     exact ⟨rfl, HBE.out⟩)
theorem nParse_any (s : ByteArray) (w : World) (hs : s.size ≤ maxLen) : Calls Tryd.prog 15 #[.string s] w fun r w' => PsOut s w r w' := by
  by_cases h8 : 8000 < s.size
  · refine (nParse_big s w hs h8).mono fun r w' ⟨h1, h2⟩ => ?_
    obtain ⟨a, b, c⟩ := ps_big h8
    unfold PsOut
    rw [a, b, c]
    exact ⟨⟨_, _, _, _, _, _, h1, nullSym_in _ _⟩, h2⟩
  have hs : s.size ≤ 8000 := by omega
  by_cases hid : idL s 0 = 0
  · exact (nParse_0 s w hs hid).mono (out_bad hs (pSym_1 (pName_no hid)))
  have hfr := pParts_from (pOne_from s 12) (s.size + 1) [] (s.extract 0 (0 + idL s 0)) (0 + idL s 0) (idL_le s 0 (Nat.zero_le _))
  cases hn : pParts s (pOne s 12) (s.size + 1) [] (s.extract 0 (0 + idL s 0)) (0 + idL s 0) with
  | bad e => exact (nParse_1 s w hs e hid hn).mono (out_bad hs (pSym_1 ((pName_is hid).trans hn)))
  | ok i a =>
    have HN := (pName_is hid).trans hn
    have his : i ≤ s.size := by rw [hn] at hfr; exact hfr.2
    cases hk : needB s [40] i with
    | bad e => exact (nParse_2 s w hs i a his hid hn e hk).mono (out_bad hs (pSym_2 HN hk))
    | ok j u =>
      have hjs := (needB_ok s [40] i j u his hk).2
      cases hv : isB s j 41
      · have hft := pTys_from (pOne_from s 12) (s.size + 1) [] j hjs
        cases ht : pTys s (pOne s 12) (s.size + 1) [] j with
        | bad e => exact (nParse_3 s w hs i a his hid hn j u hjs hk hv e ht).mono (out_bad hs (pSym_3 HN hk ((pTakes_no hv).trans ht)))
        | ok k l =>
          have hks : k ≤ s.size := by rw [ht] at hft; exact hft.2
          have HT := (pTakes_no hv).trans ht
          cases hk2 : needB s [41] k with
          | bad e => exact (nParse_4 s w hs i a his hid hn j u hjs hk hv k l hks ht e hk2).mono (out_bad hs (pSym_4 HN hk HT hk2))
          | ok m u2 =>
            have hm2 := (needB_ok s [41] k m u2 hks hk2).2
            by_cases hlt : m < s.size
            · exact (nParse_5t s w hs i a his hid hn j u hjs hk hv k l hks ht m u2 hm2 hk2 hlt).mono (out_bad hs (pSym_5 HN hk HT hk2 hlt))
            · have HP := pSym_6 HN hk HT hk2 hlt
              by_cases h0 : (symE ⟨a, l⟩).1 = 0
              · exact (nParse_7t s w hs i a his hid hn j u hjs hk hv k l hks ht m u2 hm2 hk2 hlt h0).mono (out_ok hs HP h0)
              · exact (nParse_6t s w hs i a his hid hn j u hjs hk hv k l hks ht m u2 hm2 hk2 hlt _ rfl h0).mono (out_no hs HP rfl h0)
      · have HT := pTakes_yes hv
        have hk2 := need_one hv
        have hm2 : j + 1 ≤ s.size := get_lt (isB_true hv)
        by_cases hlt : j + 1 < s.size
        · exact (nParse_5y s w hs i a his hid hn j u hjs hk hv (j + 1) () hm2 hk2 hlt).mono (out_bad hs (pSym_5 HN hk HT hk2 hlt))
        · have HP := pSym_6 HN hk HT hk2 hlt
          by_cases h0 : (symE ⟨a, []⟩).1 = 0
          · exact (nParse_7y s w hs i a his hid hn j u hjs hk hv (j + 1) () hm2 hk2 hlt h0).mono (out_ok hs HP h0)
          · exact (nParse_6y s w hs i a his hid hn j u hjs hk hv (j + 1) () hm2 hk2 hlt _ rfl h0).mono (out_no hs HP rfl h0)
end Go.Proofs.YtocpmbpckbjepaaDoor
