/- What the calls of the program's reader of mangled names answer; steps of the plain reader (printed by gen_dc.py). -/
import Derived.Test.YtocpmbpckbjepaaDoorNmDmC
import Derived.Test.YtocpmbpckbjepaaDoorNmGC
import Derived.Test.YtocpmbpckbjepaaDoorNmMgH
namespace Go.Proofs.YtocpmbpckbjepaaDoor
open Go.RowKit
set_option linter.unusedVariables false
set_option linter.unusedSimpArgs false
theorem info_ty : (Tryd.prog.info? 75).map (fun i => (i.zero, i.size, i.bytes)) = some (some (.agg #[.int .i64 0, .slice none 0 0, .slice none 0 0]), 3, 56) := by kernel_rfl
theorem dTys_end {s : ByteArray} {one : List Nd → Nat → Res (Nat × Ty × List Nd)} {g : Nat} {acc : List Ty} {ids : List Nat} {D : List Nd} {i : Nat} (h0 : acc.length ≠ 0) (h : s.data.toList[i]? = some 69) : dTys s one (g + 1) acc ids D i = .ok (i + 1) (acc, ids, D) := by
  rw [dTys, if_pos ⟨h0, h⟩]
theorem dTys_bad {s : ByteArray} {one : List Nd → Nat → Res (Nat × Ty × List Nd)} {g : Nat} {acc : List Ty} {ids : List Nat} {D : List Nd} {i e : Nat} (h0 : ¬ (acc.length ≠ 0 ∧ s.data.toList[i]? = some 69)) (h : one D i = .bad e) : dTys s one (g + 1) acc ids D i = .bad e := by
  rw [dTys, if_neg h0, h]; rfl
theorem dTys_go {s : ByteArray} {one : List Nd → Nat → Res (Nat × Ty × List Nd)} {g : Nat} {acc : List Ty} {ids : List Nat} {D : List Nd} {i j : Nat} {x : Nat × Ty × List Nd} (h0 : ¬ (acc.length ≠ 0 ∧ s.data.toList[i]? = some 69)) (h : one D i = .ok j x) : dTys s one (g + 1) acc ids D i = dTys s one g (acc ++ [x.2.1]) (ids ++ [x.1]) x.2.2 j := by
  rw [dTys, if_neg h0, h]; rfl
theorem pIds_snoc (l : List Nat) (n : Nat) : pIds (l ++ [n]) = pIds l ++ (toldL (n : Int) ++ [44]) := by unfold pIds; rw [List.flatMap_append]; simp
theorem told4 {n : Nat} (h : n < 10000) : (toldL (n : Int)).length ≤ 4 := digs_len 10 (by decide) 4 _ (by omega) (by decide)
theorem itoa4 {B : Nat} {n : Nat} (w : World) (hn : n < 10000) (h : Tab10 B w) : Calls Tryd.prog 42 #[.int .i64 (n : Int)] w fun e w' => ∃ k : ByteArray, e = .returned (.string k) ∧ k.data.toList = toldL (n : Int) ∧ k.size ≤ 4 ∧ Below w.heap.size w w' :=
  (Itoa_any (n : Int) w (by omega) (by omega) h.1).mono fun e w' ⟨h1, h2⟩ => ⟨⟨(toldL (n : Int)).toArray⟩, h1, rfl, by simpa [ByteArray.size] using told4 hn, h2⟩
theorem str_sz (s : ByteArray) : s.size = s.data.toList.length := by simp
/-- What one answers on. -/
structure OneGo (s : ByteArray) (D : List Nd) (i j : Nat) (x : Nat × Ty × List Nd) : Prop where
  lt : i + 1 ≤ j
  le : j ≤ s.size
  ext : Ext D x.2.2 (i + 1) j
  no : x.1 < x.2.2.length
theorem one_go {s : ByteArray} {f : Nat} {D : List Nd} {i j : Nat} {x : Nat × Ty × List Nd} (hi : i ≤ s.size) (hD : NOk D) (h : dOne s f D i = .ok j x) : OneGo s D i j x := by
  have := dOne_out s f D i hi hD
  rw [h] at this
  exact ⟨this.1, this.2.1, this.2.2.1, this.2.2.2⟩
theorem cells_new2 (w : World) (o : Obj) (cs : List Value) (t : TypeId) : ∀ j u, cs[j]? = some u → ((w.alloc o).alloc (.cells cs.toArray t)).cell? ((⟨w.heap.size + 1, 0, none⟩ : Addr).add j) = some u := by
  have := cells_new (w.alloc o) cs t
  simpa using this
theorem below_2 (w : World) (o o' : Obj) : Below w.heap.size w ((w.alloc o).alloc o') := Below.alloc (Below.alloc (Below.refl w.heap.size w) (Nat.le_refl _) o) (by simp) o'
/-- The reader and a row of one's own behind an append to the row. -/
theorem nPush {α : Type} {B c mb base sz n : Nat} {s : ByteArray} {i q : Int} {D : List Nd} {F0 F : Nat → Prop} {w w1 w2 wx : World} {e : TypeId} {R : World → (Nat → Prop) → α → List Value → Prop} {v v' : Value} {l : List α} (hl : nLoc c mb base e sz R F w1 v n l) (hR : StayV R) (h1 : nR B c mb s i q D F0 F w w1) (hB : B ≤ w.heap.size) (hb : w.heap.size ≤ base) {a : α} {cs : List Value} (hc : cs.length = sz) (ha : R w1 F a cs) (hx : Below w1.heap.size w1 wx)
    (ho : w2.ownsRow base e sz v' (n + 1) (hl.own.choose.flatten ++ cs)) (hg : wx.grownBy w2 v.ownBlock) (hv : v'.ownBlock = v.ownBlock ∨ v'.ownBlock = some wx.heap.size) : nR B c mb s i q D F0 F w w2 ∧ nLoc c mb base e sz R F w2 v' (n + 1) (l ++ [a]) := by
  have h2 := h1.grown hB hx hg (fun g hg' => ⟨Nat.le_trans hb (hl.own.lt g hg').1, hl.out g hg'⟩)
  exact ⟨h2, hl.push hR h1 h2 hc ha hx ho hg hv⟩
/-- A block that was laid behind the row stays where the row grows. -/
theorem kept_push {base sz n k : Nat} {w1 w2 wx : World} {e : TypeId} {v : Value} {xs : List Value} {o : Obj} (hown : w1.ownsRow base e sz v n xs) (hk : w1.heap.size ≤ k) (hb : wx.heap[k]? = some o) (hg : wx.grownBy w2 v.ownBlock) : w2.heap[k]? = some o :=
  (hg.block k (lt_of_block hb) (fun e => by have := (hown.lt k e.symm).2; omega)).trans hb
def msD (c : Nat) (s : ByteArray) (w : World) : Nat := match w.cell? ⟨c, 2, none⟩ with
  | some (.int _ q) => if q < 0 then s.size - atD c w + 1 else 0
  | _ => 0
theorem msD_on {B c mb : Nat} {s : ByteArray} {i : Nat} {D : List Nd} {F : Nat → Prop} {w : World} (h : nS B c mb s i (-1) D F w) : msD c s w = s.size - i + 1 := by
  unfold msD; rw [h.c2, atD_nS h]; simp
theorem msD_off {B c mb : Nat} {s : ByteArray} {i q : Int} {D : List Nd} {F : Nat → Prop} {w : World} (h0 : 0 ≤ q) (h : nS B c mb s i q D F w) : msD c s w = 0 := by
  unfold msD; rw [h.c2]; simp only; rw [if_neg (by omega)]
/-- What the call of one answers, f types from the bottom. -/
def nOneOk (s : ByteArray) (f : Nat) : Prop := ∀ (B c mb : Nat) (D : List Nd) (F : Nat → Prop) (i : Nat) (d : Int) (w : World), B ≤ w.heap.size → Tab10 B w → s.size ≤ 8000 → i ≤ s.size → D.length ≤ i → d = 12 - (f : Int) → nS B c mb s i (-1) D F w →
  Calls Tryd.prog 27 #[.pointer (some ⟨c, 0, none⟩), .int .i64 d] w fun e w' => RP (dOne s f D i)
    (fun e0 => e = .returned (.agg #[.int .i64 0, .int .i64 0, .slice none 0 0, .slice none 0 0]) ∧ ∃ (j : Nat) (D' : List Nd) (F' : Nat → Prop), j ≤ s.size + 2 * f + 2 ∧ nR B c mb s j e0 D' F F' w w')
    (fun j x => ∃ (F' : Nat → Prop) (k : Int) (A : Option Addr) (n q : Nat) (A' : Option Addr) (n' q' : Nat), e = .returned (.agg #[.int .i64 x.1, .int .i64 k, .slice A n q, .slice A' n' q']) ∧ TyU w' F' x.2.1 [.int .i64 k, .slice A n q, .slice A' n' q'] ∧ nR B c mb s j (-1) x.2.2 F F' w w')
def nTysOk (s : ByteArray) (f : Nat) : Prop := ∀ (B c mb : Nat) (D : List Nd) (F : Nat → Prop) (i : Nat) (d : Int) (w : World), B ≤ w.heap.size → Tab10 B w → s.size ≤ 8000 → i ≤ s.size → D.length ≤ i → d = 12 - (f : Int) → nS B c mb s i (-1) D F w →
  Calls Tryd.prog 47 #[.pointer (some ⟨c, 0, none⟩), .int .i64 d] w fun e w' => RP (dTys s (dOne s f) (s.size + 1) [] [] D i)
    (fun e0 => ∃ (A : Option Addr) (n q : Nat) (kb : ByteArray), e = .returned (.tuple #[.slice A n q, .string kb]) ∧ kb.size ≤ 5 * s.size ∧ ∃ (j : Nat) (D' : List Nd) (F' : Nat → Prop), j ≤ s.size + 2 * f + 3 ∧ nR B c mb s j e0 D' F F' w w')
    (fun j x => ∃ (F' : Nat → Prop) (A : Option Addr) (n q : Nat) (kb : ByteArray), e = .returned (.tuple #[.slice A n q, .string kb]) ∧ kb.data.toList = pIds x.2.1 ∧ kb.size + 5 * i ≤ 5 * j ∧ n ≤ q ∧ q ≤ maxLen ∧ SlS w' F' 3 (TyU w' F') A n x.1 ∧ nR B c mb s j (-1) x.2.2 F F' w w')
end Go.Proofs.YtocpmbpckbjepaaDoor
