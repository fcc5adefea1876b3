/- NmRfI, NmRfH, NmRfW, NmRfP, NmRfQ, NmRfN, NmRfM: texts of one's own, in one file. -/
import Derived.Test.YtecancnojdifaaaDoorNmMgB
import Derived.Test.YtecancnojdifaaaDoorNmSame
import Derived.Test.YtecancnojdifaaaDoorNmMgH
import Derived.Test.YtecancnojdifaaaDoorNmGA
import Derived.BigRegion
import Derived.Test.YtecancnojdifaaaDoorNmSymE
/- The reference's mangler: the look for a type in its list (IndexFunc with its closure). -/
namespace Go.Proofs.YtecancnojdifaaaDoor
open Go.RowKit
set_option linter.unusedVariables false
set_option linter.unusedSimpArgs false
theorem plc_first {d : List Ty} {t y : Ty} {j : Nat} (h : d[j]? = some y) (hs : same y t = true) (hno : ∀ i, i < j → ∀ x, d[i]? = some x → same x t = false) : plc d t = some j := by
  unfold plc
  obtain ⟨hj, rfl⟩ := List.getElem?_eq_some_iff.1 h
  exact List.findIdx?_eq_some_iff_getElem.2 ⟨hj, hs, fun i hi => by simpa using hno i hi _ (List.getElem?_eq_getElem (by omega))⟩
theorem plc_never {d : List Ty} {t : Ty} (hno : ∀ i, i < d.length → ∀ x, d[i]? = some x → same x t = false) : plc d t = none := by
  unfold plc
  rw [List.findIdx?_eq_none_iff]
  intro x hx
  obtain ⟨i, hi, rfl⟩ := List.mem_iff_getElem.1 hx
  exact hno i hi _ (List.getElem?_eq_getElem hi)
noncomputable def plcI (d : List Ty) (t : Ty) : Int := match plc d t with | some j => (j : Int) | none => -1
set_option maxRecDepth 100000 in
set_option maxHeartbeats 4000000 in
theorem one1_any (k : Nat) (x t : Ty) (cx ct : List Value) (tb : Nat) (w : World) (hx : TyIn w w.heap.size k x cx) (ht : TyIn w w.heap.size k t ct) (htb : w.heap[tb]? = some (.cells ct.toArray 60 (0, 0))) :
    Calls Tryd.prog 115 #[.agg cx.toArray, .pointer (some ⟨tb, 0, none⟩)] w fun e w' => e = .returned (.bool (same x t)) ∧ Below w.heap.size w w' := by
  have HA := hide ((Below.refl w.heap.size w).alloc (Nat.le_refl _) (.cells cx.toArray 60))
  have HC := hide (rAll k x t cx ct (w.alloc (.cells cx.toArray 60)) (hx.up HA.out) (ht.up HA.out))
  have HT := hide (block_below htb HA.out)
  cases k with
  | zero => exact hx.elim
  | succ k =>
  obtain ⟨A, n, c, A', n', c', rfl, _⟩ := hx
  obtain ⟨A2, n2, c2, A2', n2', c2', rfl, _⟩ := ht
  have x0 : (w.alloc (.cells #[.int .i64 x.kind, .slice A n c, .slice A' n' c'] 60)).cell? ⟨tb, 0, none⟩ = some (.int .i64 t.kind) := block_cell HT.out 0
  have x1 : (w.alloc (.cells #[.int .i64 x.kind, .slice A n c, .slice A' n' c'] 60)).cell? ⟨tb, 1, none⟩ = some (.slice A2 n2 c2) := block_cell HT.out 1
  have x2 : (w.alloc (.cells #[.int .i64 x.kind, .slice A n c, .slice A' n' c'] 60)).cell? ⟨tb, 2, none⟩ = some (.slice A2' n2' c2') := block_cell HT.out 2
  clear htb
  go_enter Tryd.func115, Tryd.ntmps115
  go_wp2_with (go_at_call 40; refine HC.out.mono ?_; rintro e w1 ⟨rfl, hw1⟩; have hB1 := HA.out.trans (hw1.mono HA.out.size))
  go_ret
  exact ⟨rfl, hB1⟩
set_option maxRecDepth 100000 in
set_option maxHeartbeats 4000000 in
theorem IdxT_any (k : Nat) (t : Ty) (ct : List Value) (tb : Nat) (A : Option Addr) (n cap : Nat) (d : List Ty) (w : World) (hn : n ≤ maxLen) (hl : Tys w w.heap.size k A n d) (ht : TyIn w w.heap.size k t ct) (htb : w.heap[tb]? = some (.cells ct.toArray 60 (0, 0))) :
    Calls Tryd.prog 110 #[.slice A n cap, .func (.func 115) #[] #[.pointer (some ⟨tb, 0, none⟩)]] w fun e w' => e = .returned (.int .i64 (plcI d t)) ∧ Below w.heap.size w w' := by
  unfold maxLen at hn
  have HL := hide hl.len
  have HSL := hide hl
  have HT := hide ht
  have HTB := hide htb
  clear hl ht htb
  go_enter Tryd.func110, Tryd.ntmps110
  go_wp2_with (fail)
  go_loopw [8] (fun i wr => ∃ j : Nat, j ≤ n ∧ i = .int .i64 j ∧ (∀ i, i < j → ∀ x, d[i]? = some x → same x t = false) ∧ Below w.heap.size w wr) (fun i _ => n - (intOf i).toNat)
  case atStart => exact ⟨0, Nat.zero_le _, rfl, fun i hi => absurd hi (by omega), Below.refl _ _⟩
  case round =>
    obtain ⟨j, hj, rfl, hno, hB⟩ := hrel
    have HNO := hide hno
    have hz := hB.size
    clear hno
    by_cases hlt : j < n
    · obtain ⟨o, q, y, cs, rfl, hq, hy, hin, hcs⟩ := (tys_up HSL.out hB).at_ hlt
      have C := hide (one1_any k y t cs ct tb wr hin (HT.out.up hB) (block_below HTB.out hB))
      have HY := hide hy
      cases k with
      | zero => exact hin.elim
      | succ k =>
      obtain ⟨A1, n1, cap1, A2, n2, cap2, rfl, _⟩ := hin
      have c0 : wr.cell? ⟨o, q + j * 3, none⟩ = some (.int .i64 y.kind) := by simpa using hcs 0 _ rfl
      have c1 : wr.cell? ⟨o, q + j * 3 + 1, none⟩ = some (.slice A1 n1 cap1) := hcs 1 _ rfl
      have c2 : wr.cell? ⟨o, q + j * 3 + 2, none⟩ = some (.slice A2 n2 cap2) := hcs 2 _ rfl
      obtain ⟨z, hz2⟩ : ∃ z, same y t = z := ⟨_, rfl⟩
      rw [hz2] at C
      have HZ := hide hz2
      clear hcs hy hz2
      cases z
      · go_wp2_with (go_at_call 115; refine C.out.mono ?_; rintro e w1 ⟨rfl, hw1⟩; have hB1 := hB.trans (hw1.mono hB.size))
        go_roundw
        case rel =>
          refine ⟨j + 1, by omega, by go_num, fun i hi x hx => ?_, hB1⟩
          by_cases e : i = j
          · subst e
            rw [HY.out] at hx
            obtain rfl := Option.some.inj hx
            exact HZ.out
          · exact HNO.out i (by omega) x hx
        case measure => simp [intOf]; omega
      · go_wp2_with (go_at_call 115; refine C.out.mono ?_; rintro e w1 ⟨rfl, hw1⟩; have hB1 := hB.trans (hw1.mono hB.size))
        go_ret
        exact ⟨by unfold plcI; rw [plc_first HY.out HZ.out HNO.out]; rfl, hB1⟩
    · obtain rfl : j = n := by omega
      go_wp2_with (fail)
      go_ret
      exact ⟨by unfold plcI; rw [plc_never (fun i hi => HNO.out i (by rw [← HL.out]; exact hi))]; rfl, hB⟩
end Go.Proofs.YtecancnojdifaaaDoor

/- The reference's mangler in memory: its list of types is a row of its own. -/
namespace Go.Proofs.YtecancnojdifaaaDoor
open Go.RowKit
set_option linter.unusedVariables false
set_option linter.unusedSimpArgs false
theorem tyin_len {w : World} {B k : Nat} {t : Ty} {cs : List Value} (h : TyIn w B k t cs) : cs.length = 3 := by
  cases k with
  | zero => exact h.elim
  | succ k =>
    obtain ⟨A, n, c, A', n', c', rfl, _⟩ := h
    rfl
/-- Rows of types: the cells, one behind the other. -/
structure Rows3 (w : World) (B k : Nat) (d : List Ty) (css : List (List Value)) : Prop where
  len : css.length = d.length
  in_ : ∀ (i : Nat) (t : Ty) (cs : List Value), d[i]? = some t → css[i]? = some cs → TyIn w B k t cs
theorem Rows3.nil (w : World) (B k : Nat) : Rows3 w B k [] [] := ⟨rfl, fun i t cs h => by simp at h⟩
theorem Rows3.all3 {w : World} {B k : Nat} {d : List Ty} {css : List (List Value)} (h : Rows3 w B k d css) : ∀ cs ∈ css, cs.length = 3 := fun cs hcs => by
  obtain ⟨i, hi, rfl⟩ := List.mem_iff_getElem.1 hcs
  exact tyin_len (h.in_ i _ _ (List.getElem?_eq_getElem (by rw [← h.len]; exact hi)) (List.getElem?_eq_getElem hi))
theorem Rows3.below {w w' : World} {B k : Nat} {d : List Ty} {css : List (List Value)} (h : Rows3 w B k d css) (hb : Below B w w') : Rows3 w' B k d css := ⟨h.len, fun i t cs h1 h2 => (h.in_ i t cs h1 h2).below hb⟩
theorem Rows3.snoc {w : World} {B k : Nat} {d : List Ty} {css : List (List Value)} (h : Rows3 w B k d css) {t : Ty} {cs : List Value} (ht : TyIn w B k t cs) : Rows3 w B k (d ++ [t]) (css ++ [cs]) := by
  refine ⟨by simp [h.len], fun i x c h1 h2 => ?_⟩
  by_cases hi : i < d.length
  · rw [List.getElem?_append_left hi] at h1
    rw [List.getElem?_append_left (by rw [h.len]; exact hi)] at h2
    exact h.in_ i x c h1 h2
  · by_cases e : i = d.length
    · subst e
      simp at h1
      rw [List.getElem?_append_right (by rw [h.len]; exact Nat.le_refl _), h.len] at h2
      simp at h2
      subst h1 h2
      exact ht
    · rw [List.getElem?_eq_none (by simp; omega)] at h1; cases h1
theorem flat3_get : ∀ (css : List (List Value)), (∀ cs ∈ css, cs.length = 3) → ∀ (i j : Nat) (cs : List Value) (v : Value), css[i]? = some cs → cs[j]? = some v → css.flatten[i * 3 + j]? = some v
  | [], _, i, j, cs, v, h, _ => by simp at h
  | c :: css, hl, 0, j, cs, v, h, hv => by
    simp at h
    subst h
    have hj := (List.getElem?_eq_some_iff.1 hv).1
    rw [List.flatten_cons, List.getElem?_append_left (by omega)]
    simpa using hv
  | c :: css, hl, i + 1, j, cs, v, h, hv => by
    have h3 := hl c (by simp)
    rw [List.flatten_cons, List.getElem?_append_right (by omega), h3, show (i + 1) * 3 + j - 3 = i * 3 + j by omega]
    exact flat3_get css (fun x hx => hl x (by simp [hx])) i j cs v (by simpa using h) hv
theorem flat3_len : ∀ (css : List (List Value)), (∀ cs ∈ css, cs.length = 3) → css.flatten.length = css.length * 3
  | [], _ => rfl
  | c :: css, hl => by
    rw [List.flatten_cons, List.length_append, hl c (by simp), flat3_len css (fun x hx => hl x (by simp [hx])), List.length_cons]
    omega
/-- The mangler of the reference in block r. -/
structure RgS (B r k : Nat) (d : List Ty) (w : World) : Prop where
  st : ∃ (v : Value) (css : List (List Value)), w.heap[r]? = some (.cells #[v] 124 (0, 0)) ∧ w.ownsRow B 60 3 v d.length css.flatten ∧ Rows3 w B k d css
  hB : B ≤ r
  len : d.length ≤ 1000
theorem RgS.below {B r k : Nat} {d : List Ty} {w w' : World} (h : RgS B r k d w) (hBw : B ≤ w.heap.size) (hb : Below w.heap.size w w') : RgS B r k d w' := by
  obtain ⟨⟨v, css, h1, h2, h3⟩, h4, h5⟩ := h
  exact ⟨⟨v, css, block_below h1 hb, own_below h2 hb, h3.below (hb.mono hBw)⟩, h4, h5⟩
/-- The list, read. -/
theorem RgS.tys {B r k : Nat} {d : List Ty} {w : World} (h : RgS B r k d w) (hBw : B ≤ w.heap.size) : ∃ A c, w.cell? ⟨r, 0, none⟩ = some (.slice A d.length c) ∧ Tys w w.heap.size k A d.length d := by
  obtain ⟨⟨v, css, h1, h2, h3⟩, h4, h5⟩ := h
  obtain ⟨A, c, rfl⟩ := own_sl h2
  refine ⟨A, c, block_cell h1 0, rfl, fun hn => ?_⟩
  obtain ⟨g, cap, cur, hv, hbg, hg, _⟩ := own_blk h2 hn
  simp only [Value.slice.injEq, true_and] at hv
  obtain ⟨rfl, rfl⟩ := hv
  refine ⟨g, 0, rfl, lt_of_block hg, fun i t ht => ?_⟩
  have hi : i < css.length := by rw [h3.len]; exact (List.getElem?_eq_some_iff.1 ht).1
  refine ⟨css[i], (h3.in_ i t _ ht (List.getElem?_eq_getElem hi)).more hBw, fun j u hu => ?_⟩
  rw [Nat.zero_add]
  exact own_cell h2 (i * 3 + j) u (flat3_get css h3.all3 i j _ u (List.getElem?_eq_getElem hi) hu)
/-- The block of the list. -/
def RowB (r : Nat) (w : World) (j : Nat) : Prop := ∃ v, w.heap[r]? = some (.cells #[v] 124 (0, 0)) ∧ v.ownBlock = some j
/-- What a walk of the reference's mangler does. -/
structure RgR (B r k : Nat) (d : List Ty) (w w' : World) : Prop where
  st : RgS B r k d w'
  be : Below B w w'
  kept : ∀ j o, w.heap[j]? = some o → j ≠ r → ¬ RowB r w j → w'.heap[j]? = some o
  row : ∀ j, RowB r w' j → RowB r w j ∨ w.heap.size ≤ j
theorem RgR.refl {B r k : Nat} {d : List Ty} {w : World} (h : RgS B r k d w) : RgR B r k d w w := ⟨h, Below.refl _ _, fun _ _ h _ _ => h, fun _ h => .inl h⟩
theorem RgR.trans {B r k : Nat} {d d' : List Ty} {w w1 w2 : World} (h : RgR B r k d w w1) (h' : RgR B r k d' w1 w2) : RgR B r k d' w w2 := by
  refine ⟨h'.st, h.be.trans h'.be, fun j o e h1 h2 => h'.kept j o (h.kept j o e h1 h2) h1 (fun h3 => ?_), fun j h3 => ?_⟩
  · rcases h.row j h3 with h4 | h4
    · exact h2 h4
    · have := lt_of_block e; omega
  · rcases h'.row j h3 with h4 | h4
    · exact h.row j h4
    · have := h.be.size; exact .inr (by omega)
theorem RgS.lt {B r k : Nat} {d : List Ty} {w : World} (h : RgS B r k d w) : r < w.heap.size := by
  obtain ⟨⟨v, css, h1, h2, h3⟩, h4, h5⟩ := h
  exact lt_of_block h1
theorem RgR.of_below {B r k : Nat} {d : List Ty} {w w' : World} (h : RgS B r k d w) (hBw : B ≤ w.heap.size) (hb : Below w.heap.size w w') : RgR B r k d w w' := by
  refine ⟨h.below hBw hb, hb.mono hBw, fun j o e _ _ => block_below e hb, fun j ⟨v, h1, h2⟩ => .inl ⟨v, ?_, h2⟩⟩
  rw [hb.block r h.lt] at h1
  exact h1
theorem RgR.below {B r k : Nat} {d : List Ty} {w w1 w2 : World} (h : RgR B r k d w w1) (hBw : B ≤ w.heap.size) (hb : Below w1.heap.size w1 w2) : RgR B r k d w w2 := h.trans (RgR.of_below h.st (Nat.le_trans hBw h.be.size) hb)
/-- A block that is new stays through a walk. -/
theorem RgR.new {B r k j : Nat} {d : List Ty} {w w' : World} {o : Obj} (h : RgR B r k d w w') (e : w.heap[j]? = some o) (h1 : j ≠ r) (h2 : ¬ RowB r w j) : w'.heap[j]? = some o := h.kept j o e h1 h2
theorem rowB_lt {B r k j : Nat} {d : List Ty} {w : World} (h : RgS B r k d w) (hr : RowB r w j) : j < w.heap.size := by
  obtain ⟨⟨v, css, h1, h2, h3⟩, h4, h5⟩ := h
  obtain ⟨v', e1, e2⟩ := hr
  rw [h1] at e1
  simp only [Option.some.injEq, Obj.cells.injEq, Array.mk.injEq, List.cons.injEq, and_true, true_and] at e1
  subst e1
  exact (h2.lt _ e2).2
end Go.Proofs.YtecancnojdifaaaDoor

/- Walks of the reference's mangler: list, name, one (printed by gen_mr.py). -/
namespace Go.Proofs.YtecancnojdifaaaDoor
open Go.RowKit
set_option linter.unusedVariables false
set_option linter.unusedSimpArgs false
theorem fold_take {α : Type} {g : α → List Ty → List UInt8 × List Ty} {l : List α} {j : Nat} {a : α} (h : l[j]? = some a) (d : List Ty) : mgFold g (l.take (j + 1)) d = ((mgFold g (l.take j) d).1 ++ (g a (mgFold g (l.take j) d).2).1, (g a (mgFold g (l.take j) d).2).2) := by
  rw [take_succ_get h, mgFold_snoc]
theorem sumN_take {α : Type} (c : α → Nat) (l : List α) (j : Nat) : sumN c (l.take j) ≤ sumN c l := by
  have h : ∀ a b : List α, sumN c (a ++ b) = sumN c a + sumN c b := fun a b => by simp [sumN]
  have h2 := h (l.take j) (l.drop j)
  rw [List.take_append_drop] at h2
  omega
theorem sumN_split {α : Type} (c : α → Nat) {l : List α} {j : Nat} {a : α} (h : l[j]? = some a) : sumN c (l.take j) + c a ≤ sumN c l := by
  have := sumN_take c l (j + 1)
  rw [take_succ_get h] at this
  simpa [sumN] using this
theorem str_eq {a : ByteArray} {l : List UInt8} (h : a.data.toList = l) : a = ⟨l.toArray⟩ := by rw [← h]
def rOneOkM (f : Nat) : Prop := ∀ (k : Nat) (t : Ty) (cs : List Value) (B r : Nat) (d : List Ty) (w : World), TyIn w B k t cs → Good f t ∧ Txt f t → f ≤ 12 → DOk d → d.length + cnt f t ≤ 999 → cnt f t ≤ 500 → RgS B r k d w → B ≤ w.heap.size →
  Calls Tryd.prog 104 #[.pointer (some ⟨r, 0, none⟩), .agg cs.toArray] w fun e w' => e = .returned (.string ⟨(mgT f t d).1.toArray⟩) ∧ RgR B r k (mgT f t d).2 w w'
def rListOk (f : Nat) : Prop := ∀ (k : Nat) (A : Option Addr) (n cap : Nat) (l : List Ty) (B r : Nat) (d : List Ty) (w : World), n ≤ cap → cap ≤ maxLen → n ≤ 21 → Tys w B k A n l → (∀ t ∈ l, Good f t ∧ Txt f t) → f ≤ 12 → DOk d → d.length + cntTys f l ≤ 999 → cntTys f l ≤ 500 → RgS B r k d w → B ≤ w.heap.size →
  Calls Tryd.prog 80 #[.pointer (some ⟨r, 0, none⟩), .slice A n cap] w fun e w' => e = .returned (.string ⟨(mgFold (mgT f) l d).1.toArray⟩) ∧ RgR B r k (mgFold (mgT f) l d).2 w w'
def rNameOk (f : Nat) : Prop := ∀ (k : Nat) (A : Option Addr) (n cap : Nat) (l : List Part) (B r : Nat) (d : List Ty) (w : World), n ≤ cap → cap ≤ maxLen → n ≤ 20 → Parts w B k A n l → (∀ p ∈ l, textE p.1 = 0 ∧ p.1.size ≤ 60 ∧ p.2.length ≤ 20 ∧ ∀ x ∈ p.2, Good f x ∧ Txt f x) → f ≤ 12 → DOk d → d.length + cntParts f l ≤ 999 → cntParts f l ≤ 500 → RgS B r k d w → B ≤ w.heap.size →
  Calls Tryd.prog 79 #[.pointer (some ⟨r, 0, none⟩), .slice A n cap] w fun e w' => e = .returned (.string ⟨(mgName (mgT f) l d).1.toArray⟩) ∧ RgR B r k (mgName (mgT f) l d).2 w w'
theorem rOne_zeroM : rOneOkM 0 := fun _ _ _ _ _ _ _ _ h => h.1.elim
set_option maxRecDepth 100000 in
set_option maxHeartbeats 8000000 in
theorem rList_of {f : Nat} (H : rOneOkM f) : rListOk f := by
  intro k A n cap l B r d w hnc hcm hn hl hg hf12 hd hdc hc5 hst hBw
  unfold maxLen at hcm
  have HL := hide hl.len
  have HSL := hide hl
  have HG := hide hg
  have HH := hide H
  have HGR := hide (fun j => fold_grew (c := cnt f) (S := fun y x => Sub y x) (fun t d ht hd => mgT_grew f t d hf12 ht hd) (l.take j) d (fun t ht => hg t (List.mem_of_mem_take ht)) hd)
  have HLN := hide (fun j => mgTys_len hf12 (fun t d ht hd hn => mgT_len f t d hf12 ht hd hn) (l := l.take j) (d := d) (fun t ht => hg t (List.mem_of_mem_take ht)) hd (by have := cntTys_take f l j; omega))
  have HSP := hide (fun (j : Nat) (a : Ty) (h : l[j]? = some a) => sumN_split (cnt f) h)
  have HC5 := hide (show sumN (cnt f) l ≤ 500 from hc5)
  have HDC := hide (show d.length + sumN (cnt f) l ≤ 999 from hdc)
  have HST := hide hst
  clear hl hg H hd hst
  go_enter Tryd.func80, Tryd.ntmps80
  go_wp2_with (fail)
  go_loopw [5, 10] (fun sv i wr => ∃ (j : Nat) (S : ByteArray), j ≤ n ∧ i = .int .i64 j ∧ sv = .string S ∧ S.data.toList = (mgFold (mgT f) (l.take j) d).1 ∧ RgR B r k (mgFold (mgT f) (l.take j) d).2 w wr) (fun _ i _ => n - (intOf i).toNat)
  case atStart => exact ⟨0, ⟨#[]⟩, Nat.zero_le _, rfl, rfl, rfl, RgR.refl HST.out⟩
  case round =>
    obtain ⟨j, S, hj, rfl, rfl, hS, hR⟩ := hrel
    have hz := Nat.le_trans hBw hR.be.size
    have HR := hide hR
    have hlj := HLN.out j
    have hcj := cntTys_take f l j
    have hSl : S.size ≤ 700000 := by
      have : S.size = (mgFold (mgT f) (l.take j) d).1.length := by rw [← hS, Array.length_toList]; rfl
      omega
    have HS := hide hS
    clear hS
    by_cases hlt : j < n
    · obtain ⟨o, q, t, cs, rfl, hq, ht, hin, hcs⟩ := (tys_below HSL.out hR.be).at_ hlt
      have hm := List.mem_of_getElem? ht
      have hgr := HGR.out j
      have hsp := HSP.out j t ht
      have HFT := hide (fold_take (g := mgT f) ht d)
      obtain ⟨d1, hd1⟩ : ∃ x, (mgFold (mgT f) (l.take j) d).2 = x := ⟨_, rfl⟩
      rw [hd1] at HR hgr
      have hdl := hgr.len
      have hb1 : d1.length + cnt f t ≤ 999 := by have := HDC.out; omega
      have hml := mgT_len f t d1 hf12 (HG.out t hm) hgr.ok hb1
      have hct : cnt f t ≤ 500 := by have := HC5.out; omega
      have HO := hide (fun (W : World) (h : Below B wr W) h5 h6 => HH.out k t cs B r d1 W (hin.below h) (HG.out t hm) hf12 hgr.ok hb1 hct h5 h6)
      obtain ⟨X, hX⟩ : ∃ X : ByteArray, ⟨(mgT f t d1).1.toArray⟩ = X := ⟨_, rfl⟩
      have HX := hide (show X.data.toList = (mgT f t d1).1 by rw [← hX])
      have hXl : X.size ≤ 700000 := by
        have : X.size = (mgT f t d1).1.length := by rw [← hX]; rfl
        omega
      rw [hX] at HO
      have nb1 : ¬ 9223372036854775807 < S.size + X.size := by omega
      cases k with
      | zero => exact hin.elim
      | succ k =>
      obtain ⟨A1, n1, cap1, A2, n2, cap2, rfl, _⟩ := hin
      have c0 : wr.cell? ⟨o, q + j * 3, none⟩ = some (.int .i64 t.kind) := by simpa using hcs 0 _ rfl
      have c1 : wr.cell? ⟨o, q + j * 3 + 1, none⟩ = some (.slice A1 n1 cap1) := hcs 1 _ rfl
      have c2 : wr.cell? ⟨o, q + j * 3 + 2, none⟩ = some (.slice A2 n2 cap2) := hcs 2 _ rfl
      have HA := hide ((Below.refl wr.heap.size wr).alloc (Nat.le_refl _) (.cells #[.int .i64 t.kind, .slice A1 n1 cap1, .slice A2 n2 cap2] 60))
      have HR2 := hide (HR.out.below hBw HA.out)
      have HC := hide (HO.out _ (HA.out.mono hz) HR2.out.st (Nat.le_trans hz HA.out.size))
      have HD1 := hide hd1
      clear hcs ht hm hR HO hd1 hgr hsp hX
      go_wp2_with (go_at_call 104; refine HC.out.mono ?_; rintro e w2 ⟨rfl, hr2⟩; have HR3 := hide (HR2.out.trans hr2); clear hr2)
      go_roundw
      case rel => exact ⟨j + 1, S ++ X, by omega, by go_num, rfl, by rw [app_toL, HS.out, HX.out, HFT.out, HD1.out], by rw [HFT.out, HD1.out]; exact HR3.out⟩
      case measure => simp [intOf]; omega
    · obtain rfl : j = n := by omega
      have htk : l.take j = l := take_len l (by rw [HL.out]; exact Nat.le_refl _)
      rw [htk] at HR HS
      clear htk hR
      go_wp2_with (fail)
      go_ret
      exact ⟨by rw [str_eq HS.out]; rfl, HR.out⟩
set_option maxRecDepth 100000 in
set_option maxHeartbeats 8000000 in
theorem rName_of {f : Nat} (HT : rListOk f) : rNameOk f := by
  intro k A n cap l B r d w hnc hcm hn hl hg hf12 hd hdc hc5 hst hBw
  unfold maxLen at hcm
  have HLN := hide hl.len
  have HSL := hide hl
  have HG := hide hg
  have hnn := hl.len
  have HGR := hide (fun j => fold_grew (c := fun p => cntTys f p.2) (S := fun p x => ∃ y ∈ p.2, Sub y x) (G := fun p => textE p.1 = 0 ∧ p.1.size ≤ 60 ∧ ∀ x ∈ p.2, Good f x ∧ Txt f x) (fun p d hp hd => mgParts_grew hf12 p d hp hd) (l.take j) d (fun p hp => ⟨(hg p (List.mem_of_mem_take hp)).1, (hg p (List.mem_of_mem_take hp)).2.1, (hg p (List.mem_of_mem_take hp)).2.2.2⟩) hd)
  have HNL := hide (fun j => Nat.le_trans (mgParts_len hf12 (fun t d ht hd hn => mgT_len f t d hf12 ht hd hn) (l := l.take j) (d := d) (fun p hp => ⟨(hg p (List.mem_of_mem_take hp)).1, (hg p (List.mem_of_mem_take hp)).2.1, (hg p (List.mem_of_mem_take hp)).2.2.2⟩) hd (by have := cntParts_take f l j; omega)) (Nat.add_le_add (Nat.mul_le_mul_left 64 (show (l.take j).length ≤ 20 by rw [List.length_take]; omega)) (Nat.mul_le_mul_left 1400 (Nat.le_trans (cntParts_take f l j) hc5))))
  have HSP := hide (fun (j : Nat) (p : Part) (h : l[j]? = some p) => sumN_split (fun p : Part => cntTys f p.2) h)
  have HC5 := hide (show sumN (fun p : Part => cntTys f p.2) l ≤ 500 from hc5)
  have HDC := hide (show d.length + sumN (fun p : Part => cntTys f p.2) l ≤ 999 from hdc)
  have HST := hide hst
  have s69 : (⟨#[69]⟩ : ByteArray).size = 1 := rfl
  have s73 : (⟨#[73]⟩ : ByteArray).size = 1 := rfl
  clear hl hg hd hst
  go_enter Tryd.func79, Tryd.ntmps79
  go_wp2_with (fail)
  go_loopw [5, 10] (fun sv i wr => ∃ (j : Nat) (S : ByteArray), j ≤ n ∧ i = .int .i64 j ∧ sv = .string S ∧ S.data.toList = 78 :: (mgFold (mgPart (mgT f)) (l.take j) d).1 ∧ RgR B r k (mgFold (mgPart (mgT f)) (l.take j) d).2 w wr) (fun _ i _ => n - (intOf i).toNat)
  case atStart => exact ⟨0, ⟨#[78]⟩, Nat.zero_le _, rfl, rfl, rfl, RgR.refl HST.out⟩
  case round =>
    obtain ⟨j, S, hj, rfl, rfl, hS, hR⟩ := hrel
    have hz := Nat.le_trans hBw hR.be.size
    have hlj := HNL.out j
    have hSl : S.size ≤ 710000 := by
      have h1 : S.size = (78 :: (mgFold (mgPart (mgT f)) (l.take j) d).1).length := by rw [← hS, Array.length_toList]; rfl
      rw [List.length_cons] at h1
      omega
    have HS := hide hS
    clear hS
    by_cases hlt : j < n
    · obtain ⟨o, q, p, cs, rfl, hq, hp, hin, hcs⟩ := (parts_below HSL.out hR.be).at_ hlt
      obtain ⟨PA, pn, pc, rfl, hps, hpnc, hpcm, hpl⟩ := hin
      have hm := List.mem_of_getElem? hp
      obtain ⟨hpt, hp60, hp20, hpg⟩ := HG.out p hm
      have hsp := HSP.out j p hp
      have hgr := HGR.out j
      have hpln := hpl.len
      have HFT := hide (fold_take (g := mgPart (mgT f)) hp d)
      obtain ⟨d1, hd1⟩ : ∃ x, (mgFold (mgPart (mgT f)) (l.take j) d).2 = x := ⟨_, rfl⟩
      rw [hd1] at hR hgr
      have hdl := hgr.len
      have HDO := hide hgr.ok
      have hb1 : d1.length + cntTys f p.2 ≤ 999 := by have := HDC.out; omega
      have hct : cntTys f p.2 ≤ 500 := by have := HC5.out; omega
      have hml := mgTys_len hf12 (fun t d ht hd hn => mgT_len f t d hf12 ht hd hn) hpg hgr.ok hb1
      have c0 : wr.cell? ⟨o, q + j * 2, none⟩ = some (.string p.1) := by simpa using hcs 0 _ rfl
      have c1 : wr.cell? ⟨o, q + j * 2 + 1, none⟩ = some (.slice PA pn pc) := hcs 1 _ rfl
      have HPA := hide ((Below.refl wr.heap.size wr).alloc (Nat.le_refl _) (.cells #[.string p.1, .slice PA pn pc] 76))
      have HPX := hide (heap_alloc_new wr (.cells #[.string p.1, .slice PA pn pc] 76))
      have HR2 := hide (hR.below hBw (HPA.out.trans (below_drewN (Below.refl _ _) 1)))
      have HBA := hide ((HPA.out.mono hz).trans (below_drewN (Below.refl B _) 1))
      have HPL := hide hpl
      have e0 : (wr.alloc (.cells #[.string p.1, .slice PA pn pc] 76)).cell? ⟨wr.heap.size, 0, none⟩ = some (.string p.1) := block_cell HPX.out 0
      have HPG := hide hpg
      have HD1 := hide hd1
      clear hcs hm hR hp hpl hpg hgr hd1
      go_wp2_with (fail)
      obtain ⟨wa, hwa⟩ : ∃ x, wr.alloc (.cells #[.string p.1, .slice PA pn pc] 76) = x := ⟨_, rfl⟩
      rw [hwa] at HPX HPA e0 HR2 HBA ⊢
      clear hwa
      have HI := hide (Told_any (p.1.size : Int) wa.drew (by omega) (by omega))
      obtain ⟨lz, hlz⟩ : ∃ x : ByteArray, ⟨(toldL (p.1.size : Int)).toArray⟩ = x := ⟨_, rfl⟩
      have HLZ := hide (show lz.data.toList = lenL p.1 by rw [← hlz]; rfl)
      have hlz2 : lz.size ≤ 2 := by
        have h1 : lz.size = (lenL p.1).length := by rw [← HLZ.out, Array.length_toList]; rfl
        have := lenL_len hp60
        omega
      rw [hlz] at HI
      have hq1 : (lz ++ p.1).size = lz.size + p.1.size := ByteArray.size_append
      have nb1 : ¬ 9223372036854775807 < lz.size + p.1.size := by omega
      have nb2 : ¬ 9223372036854775807 < S.size + (lz.size + p.1.size) := by omega
      clear hlz
      refine wp_region_chain (fun W => W.cell? ⟨wr.heap.size, 0, none⟩ = some (.string p.1)) 9 (by as_aux_lemma => kernel_rfl) (N := 10) (by as_aux_lemma => kernel_rfl) ?_; intro hsh
      have HS1 : wa.drew.cell? ⟨wr.heap.size, 0, none⟩ = some (.string p.1) := e0
      refine wpAnyC_take0 (i := 0) (k := 9) (v := ?_) (d := some 14) rfl (by rfl) (by as_aux_lemma => kernel_rfl) (by as_aux_lemma => kernel_rfl) (by as_aux_lemma => kernel_rfl) hsh (by decide) (by intro _ _ _ h; exact h) (by assumption) (Or.inl ⟨by rfl, ?hy⟩) ?_; (case hy => (intro W _; go_simp; (try with_reducible rfl))); clear hsh; intro hsh
      refine wpAnyC_take0 (i := 1) (k := 9) (v := ?_) (d := some 15) rfl (by rfl) (by as_aux_lemma => kernel_rfl) (by as_aux_lemma => kernel_rfl) (by as_aux_lemma => kernel_rfl) hsh (by decide) (by intro _ _ _ h; exact h) (by assumption) (Or.inl ⟨by rfl, ?hy⟩) ?_; (case hy => (intro W _; go_simp; (try with_reducible rfl))); clear hsh; intro hsh
      refine wpAnyC_take (i := 2) (k := 9) (f := 40) (v := ?_) (d := some 16) rfl (by rfl) (by as_aux_lemma => kernel_rfl) (by as_aux_lemma => kernel_rfl) (by as_aux_lemma => kernel_rfl) hsh (by decide) (by as_aux_lemma => kernel_rfl) (by intro _ _ _ h; exact h) (by assumption) (Or.inl ⟨by rfl, ?hy⟩) ?_; (case hy => (rintro W y0; go_simp; (try with_reducible rfl))); clear hsh; intro hsh
      refine wpAnyC_take0 (i := 3) (k := 9) (v := ?_) (d := some 17) rfl (by rfl) (by as_aux_lemma => kernel_rfl) (by as_aux_lemma => kernel_rfl) (by as_aux_lemma => kernel_rfl) hsh (by decide) (by intro _ _ _ h; exact h) (by assumption) (Or.inl ⟨by rfl, ?hy⟩) ?_; (case hy => (intro W _; go_simp; (try with_reducible rfl))); clear hsh; intro hsh
      refine wpAnyC_take0 (i := 5) (k := 9) (v := ?_) (d := some 19) rfl (by rfl) (by as_aux_lemma => kernel_rfl) (by as_aux_lemma => kernel_rfl) (by as_aux_lemma => kernel_rfl) hsh (by decide) (by intro _ _ _ h; exact h) (by assumption) (Or.inl ⟨by rfl, ?hy⟩) ?_; (case hy => (intro W _; go_simp; (try with_reducible rfl))); clear hsh; intro hsh
      refine wpAnyC_take (i := 6) (k := 9) (f := 40) (v := ?_) (d := some 20) rfl (by rfl) (by as_aux_lemma => kernel_rfl) (by as_aux_lemma => kernel_rfl) (by as_aux_lemma => kernel_rfl) hsh (by decide) (by as_aux_lemma => kernel_rfl) (by intro _ _ _ h; exact h) (by assumption) (Or.inl ⟨by rfl, ?hy⟩) ?_; (case hy => (rintro W y0; go_simp; (try with_reducible rfl))); clear hsh; intro hsh
      refine wpAnyC_ready (rs := [4]) (by as_aux_lemma => kernel_rfl) (by simp) ?_; refine AllC.cons (i := 4) rfl (by as_aux_lemma => kernel_rfl) hsh (fun K hK => ?_) AllC.nil
      go_simp
      go_at_call 72
      refine HI.out.mono ?_
      rintro e w2 ⟨rfl, hw2⟩
      have HPX2 := hide (block_below (show wa.drew.heap[wr.heap.size]? = _ from HPX.out) hw2)
      have HR3 := hide (HR2.out.below hBw hw2)
      have HBB := hide (HBA.out.trans (hw2.mono (Nat.le_trans hBw HR2.out.be.size)))
      try go_simp
      refine hK _ _ (fun _ => block_cell HPX2.out 0) ?_
      clear hK K hsh HS1 hw2 HI
      intro hsh
      have HS1 : w2.cell? ⟨wr.heap.size, 0, none⟩ = some (.string p.1) := block_cell HPX2.out 0
      refine wpAnyC_take0 (i := 7) (k := 9) (v := ?_) (d := some 21) rfl (by rfl) (by as_aux_lemma => kernel_rfl) (by as_aux_lemma => kernel_rfl) (by as_aux_lemma => kernel_rfl) hsh (by decide) (by intro _ _ _ h; exact h) (by assumption) (Or.inl ⟨by rfl, ?hy⟩) ?_; (case hy => (intro W _; go_simp; (try with_reducible rfl))); clear hsh; intro hsh
      refine wpAnyC_take0 (i := 8) (k := 9) (v := ?_) (d := some 22) rfl (by rfl) (by as_aux_lemma => kernel_rfl) (by as_aux_lemma => kernel_rfl) (by as_aux_lemma => kernel_rfl) hsh (by decide) (by intro _ _ _ h; exact h) (by assumption) (Or.inl ⟨by rfl, ?hy⟩) ?_; (case hy => (intro W _; go_simp; (try with_reducible rfl))); clear hsh; intro hsh
      refine wpAnyC_tail (by as_aux_lemma => kernel_rfl) (by simp) (by as_aux_lemma => kernel_rfl) ?_; simp only [List.drop_succ_cons, List.drop_zero]; clear hsh
      have y1 : w2.cell? ⟨wr.heap.size, 1, none⟩ = some (.slice PA pn pc) := block_cell HPX2.out 1
      by_cases hp0 : pn = 0
      · subst hp0
        have hpe : p.2 = [] := List.length_eq_zero_iff.1 hpln
        have HKP := hide (show (mgPart (mgT f) p d1).1 = lenL p.1 ++ p.1.data.toList ∧ (mgPart (mgT f) p d1).2 = d1 from ⟨by unfold mgPart; rw [if_pos hpln]; simp, by unfold mgPart; rw [hpe]; rfl⟩)
        go_wp2_with (fail)
        go_roundw
        case rel => exact ⟨j + 1, S ++ (lz ++ p.1), by omega, by go_num, rfl, by rw [app_toL, app_toL, HS.out, HLZ.out, HFT.out, HD1.out, HKP.out.1]; simp, by rw [HFT.out, HD1.out, HKP.out.2]; exact HR3.out⟩
        case measure => simp [intOf]; omega
      · have hpp : 0 < pn := by omega
        have hpp2 : (0 : Int) < (pn : Int) := by omega
        obtain ⟨X, hX⟩ : ∃ X : ByteArray, ⟨(mgFold (mgT f) p.2 d1).1.toArray⟩ = X := ⟨_, rfl⟩
        have HX := hide (show X.data.toList = (mgFold (mgT f) p.2 d1).1 by rw [← hX])
        have hXl : X.size ≤ 700000 := by
          have h1 : X.size = (mgFold (mgT f) p.2 d1).1.length := by rw [← hX]; rfl
          omega
        have HKP := hide (show (mgPart (mgT f) p d1).1 = lenL p.1 ++ p.1.data.toList ++ (73 :: ((mgFold (mgT f) p.2 d1).1 ++ [69])) by unfold mgPart; rw [if_neg (by omega)])
        have HC := hide (HT k PA pn pc p.2 B r d1 w2 hpnc hpcm (by omega) (tys_below HPL.out HBB.out) HPG.out hf12 HDO.out hb1 hct HR3.out.st (Nat.le_trans hBw HR3.out.be.size))
        rw [hX] at HC
        have hq2 : (S ++ (lz ++ p.1)).size = S.size + (lz.size + p.1.size) := by rw [ByteArray.size_append, hq1]
        have hq3 : ((⟨#[73]⟩ : ByteArray) ++ X).size = 1 + X.size := by rw [ByteArray.size_append, s73]
        have hq4 : ((⟨#[73]⟩ : ByteArray) ++ X ++ (⟨#[69]⟩ : ByteArray)).size = 1 + X.size + 1 := by rw [ByteArray.size_append, hq3, s69]
        have nb3 : ¬ 9223372036854775807 < 1 + X.size := by omega
        have nb4 : ¬ 9223372036854775807 < 1 + X.size + 1 := by omega
        have nb5 : ¬ 9223372036854775807 < S.size + (lz.size + p.1.size) + (1 + X.size + 1) := by omega
        clear hX
        go_wp2_with (go_at_call 80; refine HC.out.mono ?_; rintro e w4 ⟨rfl, hr4⟩; have HR5 := hide (HR3.out.trans hr4); clear hr4)
        go_roundw
        case rel => exact ⟨j + 1, S ++ (lz ++ p.1) ++ ((⟨#[73]⟩ : ByteArray) ++ X ++ (⟨#[69]⟩ : ByteArray)), by omega, by go_num, rfl, by rw [app_toL, app_toL, app_toL, app_toL, app_toL, HS.out, HLZ.out, HX.out, HFT.out, HD1.out, HKP.out]; simp, by rw [HFT.out, HD1.out]; exact HR5.out⟩
        case measure => simp [intOf]; omega
    · obtain rfl : j = n := by omega
      have htk : l.take j = l := take_len _ (by rw [HLN.out]; exact Nat.le_refl _)
      rw [htk] at hR HS
      have HR := hide hR
      have nb1 : ¬ 9223372036854775807 < S.size + 1 := by omega
      clear hR htk
      go_wp2_with (fail)
      go_ret
      have HE := str_eq (show (S ++ (⟨#[69]⟩ : ByteArray)).data.toList = (mgName (mgT f) l d).1 by rw [app_toL, HS.out]; unfold mgName; simp)
      exact ⟨by rw [← HE]; rfl, HR.out⟩
set_option maxRecDepth 100000 in
set_option maxHeartbeats 8000000 in
/-- A type that was written out. -/
theorem rOne_found {f : Nat} (k : Nat) (t : Ty) (cs : List Value) (B r : Nat) (d : List Ty) (w : World) (kx : Nat) (hin : TyIn w B k t cs) (hp : plc d t = some kx) (hst : RgS B r k d w) (hBw : B ≤ w.heap.size) :
    Calls Tryd.prog 104 #[.pointer (some ⟨r, 0, none⟩), .agg cs.toArray] w fun e w' => e = .returned (.string ⟨(mgT (f + 1) t d).1.toArray⟩) ∧ RgR B r k (mgT (f + 1) t d).2 w w' := by
  have HA := hide ((Below.refl w.heap.size w).alloc (Nat.le_refl _) (.cells cs.toArray 60))
  have HX := hide (heap_alloc_new w (.cells cs.toArray 60))
  have HR0 := hide ((RgR.refl hst).below hBw HA.out)
  obtain ⟨A, c, hc0, hty⟩ := HR0.out.st.tys (Nat.le_trans hBw HA.out.size)
  have hdl := hst.len
  have CI := hide (IdxT_any k t cs w.heap.size A d.length c d (w.alloc (.cells cs.toArray 60)) (by unfold maxLen; omega) hty ((hin.below (HA.out.mono hBw)).more (Nat.le_trans hBw HA.out.size)) HX.out)
  have hkl := (List.getElem?_eq_some_iff.1 (plc_some hp).1).1
  rw [show plcI d t = (kx : Int) by unfold plcI; rw [hp]] at CI
  have HMG := hide (show (mgT (f + 1) t d).1 = (⟨#[83]⟩ : ByteArray).data.toList ++ toldL (kx : Int) ++ (⟨#[95]⟩ : ByteArray).data.toList ∧ (mgT (f + 1) t d).2 = d from ⟨by rw [mgT, hp]; simp, by rw [mgT, hp]⟩)
  have HT := hide (fun W => Told_any (kx : Int) W (by omega) (by omega))
  obtain ⟨lz, hlz⟩ : ∃ x : ByteArray, ⟨(toldL (kx : Int)).toArray⟩ = x := ⟨_, rfl⟩
  have HLZ := hide (show lz.data.toList = toldL (kx : Int) by rw [← hlz])
  have hlz3 : lz.size ≤ 4 := by
    have h1 : (toldL (kx : Int)).length ≤ 4 := digs_len 10 (by decide) 4 _ (by omega) (by decide)
    have h2 : lz.size = (toldL (kx : Int)).length := by rw [← HLZ.out, Array.length_toList]; rfl
    omega
  rw [hlz] at HT
  have s83 : (⟨#[83]⟩ : ByteArray).size = 1 := rfl
  have s95 : (⟨#[95]⟩ : ByteArray).size = 1 := rfl
  have nb1 : ¬ 9223372036854775807 < 1 + lz.size := by omega
  have hq1 : ((⟨#[83]⟩ : ByteArray) ++ lz).size = 1 + lz.size := by rw [ByteArray.size_append, s83]
  have nb2 : ¬ 9223372036854775807 < 1 + lz.size + 1 := by omega
  have hk0 : (0 : Int) ≤ (kx : Int) := by omega
  rw [HMG.out.1, HMG.out.2]
  clear hlz hp hty hst HMG
  cases k with
  | zero => exact hin.elim
  | succ k =>
  obtain ⟨A1, n1, c1, A2, n2, c2, rfl, _⟩ := hin
  go_enter Tryd.func104, Tryd.ntmps104
  go_wp2_with (first | (go_at_call 110; refine CI.out.mono ?_; rintro e w1 ⟨rfl, hw1⟩; have HR1 := hide (HR0.out.below hBw hw1); clear hw1) | (go_at_call 72; refine (HT.out _).mono ?_; rintro e w2 ⟨rfl, hw2⟩; have HR2 := hide (HR1.out.below hBw hw2); clear hw2))
  go_ret
  have HE := str_eq (show ((⟨#[83]⟩ : ByteArray) ++ lz ++ (⟨#[95]⟩ : ByteArray)).data.toList = 83 :: (toldL (kx : Int) ++ [95]) by rw [app_toL, app_toL, HLZ.out]; simp)
  exact ⟨congrArg (fun x => Ending.returned (Value.string x)) HE, HR2.out⟩
end Go.Proofs.YtecancnojdifaaaDoor

/- The reference's mangler: one type more in its list. -/
namespace Go.Proofs.YtecancnojdifaaaDoor
open Go.RowKit
set_option linter.unusedVariables false
set_option linter.unusedSimpArgs false
theorem rg_push {B r k : Nat} {d : List Ty} {w2 wx w3 : World} {v v' : Value} {css : List (List Value)} {cs : List Value} {t : Ty} (hBw : B ≤ w2.heap.size) (hB : B ≤ r) (hln : d.length + 1 ≤ 1000) (h1 : w2.heap[r]? = some (.cells #[v] 124 (0, 0))) (h2 : w2.ownsRow B 60 3 v d.length css.flatten) (h3 : Rows3 w2 B k d css) (ht : TyIn w2 B k t cs)
    (hb : Below w2.heap.size w2 wx) (ho : w3.ownsRow B 60 3 v' (d.length + 1) (css.flatten ++ cs)) (hg : wx.grownBy w3 v.ownBlock) (hv : v'.ownBlock = v.ownBlock ∨ v'.ownBlock = some wx.heap.size) : RgR B r k (d ++ [t]) w2 (w3.setCell ⟨r, 0, none⟩ v') := by
  have hr := lt_of_block h1
  have hne : v.ownBlock ≠ some r := own_other' h2 h1 (by decide)
  have h1x := block_below h1 hb
  have h13 : w3.heap[r]? = some (.cells #[v] 124 (0, 0)) := (hg.block r (lt_of_block h1x) (fun e => hne e.symm)).trans h1x
  have hne3 : v'.ownBlock ≠ some r := own_other' ho h13 (by decide)
  have hb3 : Below B w2 w3 := (hb.mono hBw).grown hg (Nat.le_trans hBw hb.size) (fun j hj => (h2.lt j hj).1)
  have hset := block_set h13 (i := 0) v'
  have hbe : Below B w2 (w3.setCell ⟨r, 0, none⟩ v') := hb3.setCell (p := ⟨r, 0, none⟩) hB _
  refine ⟨⟨⟨v', css ++ [cs], hset, ?_, (h3.below hbe).snoc (ht.below hbe)⟩, hB, by simp; omega⟩, hbe, fun j o e hj hrow => ?_, fun j hj => ?_⟩
  · have := ownsRow_setCell_other ho (a := ⟨r, 0, none⟩) hne3 v'
    simpa using this
  · have e1 := block_below e hb
    have e2 := (hg.block j (lt_of_block e1) (fun he => hrow ⟨v, h1, he.symm⟩)).trans e1
    exact block_set_other e2 _ _ hj
  · obtain ⟨u, hu, hub⟩ := hj
    rw [hset] at hu
    simp at hu
    subst hu
    rcases hv with he | he
    · exact .inl ⟨v, h1, he.symm.trans hub⟩
    · rw [he] at hub
      have := hb.size
      exact .inr (by simp at hub; omega)
end Go.Proofs.YtecancnojdifaaaDoor

/- The reference's mangler: the last type of its list, written over. -/
namespace Go.Proofs.YtecancnojdifaaaDoor
open Go.RowKit
set_option linter.unusedVariables false
set_option linter.unusedSimpArgs false
def tyZero : Ty := ⟨0, [], []⟩
theorem tyZero_in (w : World) (B k : Nat) : TyIn w B (k + 1) tyZero [.int .i64 0, .slice none 0 0, .slice none 0 0] := ⟨none, 0, 0, none, 0, 0, rfl, Nat.le_refl _, by unfold maxLen; omega, Nat.le_refl _, by unfold maxLen; omega, SlP.nil _ _ _ _ _, SlP.nil _ _ _ _ _⟩
theorem set3 {F : List Value} {n : Nat} {x0 x1 x2 c0 c1 c2 : Value} (h : F.length = n) : (((F ++ [x0, x1, x2]).set n c0).set (n + 1) c1).set (n + 2) c2 = F ++ [c0, c1, c2] := by
  subst h
  rw [List.set_append_right _ _ (Nat.le_refl _), List.set_append_right _ _ (by omega), List.set_append_right _ _ (by omega)]
  simp
/-- The last one of the list is written over, cell by cell. -/
theorem rg_set {B r k n : Nat} {d : List Ty} {w : World} {g cap : Nat} {css : List (List Value)} {x0 x1 x2 c0 c1 c2 : Value} {t : Ty} (hBw : B ≤ w.heap.size) (hB : B ≤ r) (hn : n = d.length) (hln : d.length + 1 ≤ 1000) (h1 : w.heap[r]? = some (.cells #[.slice (some ⟨g, 0, none⟩) (n + 1) cap] 124 (0, 0)))
    (h2 : w.ownsRow B 60 3 (.slice (some ⟨g, 0, none⟩) (n + 1) cap) (n + 1) (css.flatten ++ [x0, x1, x2])) (h3 : Rows3 w B k d css) (ht : TyIn w B k t [c0, c1, c2]) :
    RgR B r k (d ++ [t]) w (((w.setCell ⟨g, n * 3, none⟩ c0).setCell ⟨g, n * 3 + 1, none⟩ c1).setCell ⟨g, n * 3 + 2, none⟩ c2) := by
  obtain ⟨hBg, hgl⟩ := h2.lt g rfl
  have hfl : css.flatten.length = n * 3 := by rw [flat3_len css h3.all3, h3.len, hn]
  have o3 := own_set (own_set (own_set h2 (n * 3) c0) (n * 3 + 1) c1) (n * 3 + 2) c2
  rw [set3 hfl] at o3
  have hne : (Value.slice (some ⟨g, 0, none⟩) (n + 1) cap).ownBlock ≠ some r := own_other' h2 h1 (by decide)
  have hgr : g ≠ r := fun e => hne (by subst e; rfl)
  have hbe : Below B w (((w.setCell ⟨g, n * 3, none⟩ c0).setCell ⟨g, n * 3 + 1, none⟩ c1).setCell ⟨g, n * 3 + 2, none⟩ c2) := below_set (below_set (below_set (Below.refl _ _) hBg _) hBg _) hBg _
  have ho : ∀ j o, w.heap[j]? = some o → j ≠ g → (((w.setCell ⟨g, n * 3, none⟩ c0).setCell ⟨g, n * 3 + 1, none⟩ c1).setCell ⟨g, n * 3 + 2, none⟩ c2).heap[j]? = some o := fun j o e hj =>
    block_set_other (block_set_other (block_set_other e _ _ hj) _ _ hj) _ _ hj
  have h1' := ho r _ h1 (fun e => hgr e.symm)
  refine ⟨⟨⟨_, css ++ [[c0, c1, c2]], h1', ?_, (h3.below hbe).snoc (ht.below hbe)⟩, hB, by simp; omega⟩, hbe, fun j o e hj hrow => ho j o e (fun e' => hrow ⟨_, h1, by subst e'; rfl⟩), fun j hj => ?_⟩
  · subst hn
    have : (d ++ [t]).length = d.length + 1 := by simp
    rw [this, List.flatten_append]
    simpa using o3
  · obtain ⟨u, hu, hub⟩ := hj
    rw [h1'] at hu
    simp at hu
    subst hu
    exact .inl ⟨_, h1, hub⟩
end Go.Proofs.YtecancnojdifaaaDoor

/- The reference's mangler: a type that is new (printed by gen_mr_n.py). -/
namespace Go.Proofs.YtecancnojdifaaaDoor
open Go.RowKit
set_option linter.unusedVariables false
set_option linter.unusedSimpArgs false
theorem info_tyR : (Tryd.prog.info? 60).map (fun i => (i.zero, i.size, i.bytes)) = some (some (.agg #[.int .i64 0, .slice none 0 0, .slice none 0 0]), 3, 56) := by kernel_rfl
set_option maxRecDepth 100000 in
set_option maxHeartbeats 8000000 in
theorem rOne_k1 {f : Nat} (HN : rNameOk f) (k : Nat) (t : Ty) (cs : List Value) (B r : Nat) (d : List Ty) (w : World) (hin : TyIn w B k t cs) (hgt : Good (f + 1) t ∧ Txt (f + 1) t) (hf12 : f + 1 ≤ 12) (hd : DOk d) (hdc : d.length + cnt (f + 1) t ≤ 999) (hc5 : cnt (f + 1) t ≤ 500) (hp : plc d t = none) (hst : RgS B r k d w) (hBw : B ≤ w.heap.size) (hK : t.kind = 1) :
    Calls Tryd.prog 104 #[.pointer (some ⟨r, 0, none⟩), .agg cs.toArray] w fun e w' => e = .returned (.string ⟨(mgT (f + 1) t d).1.toArray⟩) ∧ RgR B r k (mgT (f + 1) t d).2 w w' := by
  have hin0 := hin
  obtain ⟨hg, htx⟩ := hgt
  obtain ⟨hnt, hdb, hdlb⟩ := body_new hf12 ⟨hg, htx⟩ hd hp
  have HA := hide ((Below.refl w.heap.size w).alloc (Nat.le_refl _) (.cells cs.toArray 60))
  have HX := hide (heap_alloc_new w (.cells cs.toArray 60))
  have HR0 := hide ((RgR.refl hst).below hBw HA.out)
  have hrl := hst.lt
  obtain ⟨i0, hi0, iz0, iz1, iz2⟩ := info_parts info_tyR
  have HBr := hide hst.hB
  have HNR := hide (show ¬ RowB r (w.alloc (.cells cs.toArray 60)) w.heap.size from fun ⟨v, e1, e2⟩ => by
    rw [HA.out.block r hrl] at e1
    exact absurd (rowB_lt hst ⟨v, e1, e2⟩) (Nat.lt_irrefl _))
  obtain ⟨wa, hwa⟩ : ∃ x, w.alloc (.cells cs.toArray 60) = x := ⟨_, rfl⟩
  have hBa : B ≤ wa.heap.size := by rw [← hwa]; exact Nat.le_trans hBw HA.out.size
  rw [hwa] at HA HX HR0 HNR
  obtain ⟨A, c, hc0, hty⟩ := HR0.out.st.tys hBa
  have hdl := hst.len
  have CI := hide (IdxT_any k t cs w.heap.size A d.length c d wa (by unfold maxLen; omega) hty ((hin.below (HA.out.mono hBw)).more hBa) HX.out)
  rw [show plcI d t = -1 by unfold plcI; rw [hp]] at CI
  rw [cnt_eq] at hdc hc5
  have htbl : w.heap.size < wa.heap.size := lt_of_block HX.out
  have HMG := hide (show (mgT (f + 1) t d).1 = (mgBody (mgT f) t d).1 ∧ (mgT (f + 1) t d).2 = (mgBody (mgT f) t d).2 ++ [t] from ⟨by rw [mgT, hp], by rw [mgT, hp]⟩)
  rw [HMG.out.1, HMG.out.2]
  have HIN := hide hin0
  cases k with
  | zero => exact hin.elim
  | succ k =>
  obtain ⟨A1, n1, c1, A2, n2, c2, rfl, hn, hm, hn2, hm2, hl, hl2⟩ := hin
  obtain ⟨⟨hk1, hk4⟩, h1, h2, h3, h4, h5⟩ := hg
  obtain ⟨t1, t2⟩ := htx
  have HKK := hide hK
  rw [hK] at h1 h2 h3 HX hwa HIN ⊢
  have HRa := hide (RgR.refl HR0.out.st)
  have HD := hide hd
  obtain ⟨ho, hp1, hp2⟩ := h1 rfl
  have hnl := hl.len
  have HL1 := hide hl
  have HPG := hide (fun p (hp : p ∈ t.name) => (⟨(t1 p hp).1, (h4 p hp).1, (h4 p hp).2.1, fun x hx => ⟨(h4 p hp).2.2 x hx, (t1 p hp).2 x hx⟩⟩ : textE p.1 = 0 ∧ p.1.size ≤ 60 ∧ p.2.length ≤ 20 ∧ ∀ x ∈ p.2, Good f x ∧ Txt f x))
  have hmb : mgBody (mgT f) t d = mgName (mgT f) t.name d := by unfold mgBody; rw [if_pos HKK.out]
  have HC := hide (fun w1 (hb : Below B w w1) h => HN (k + 1) A1 n1 c1 t.name B r d w1 hn hm (by omega) (parts_deep (parts_below HL1.out hb) (Nat.le_succ _)) HPG.out (by omega) HD.out (by omega) (by omega) h)
  rw [hmb]
  rw [hmb] at hdlb
  obtain ⟨X, hX⟩ : ∃ X : ByteArray, ⟨(mgName (mgT f) t.name d).1.toArray⟩ = X := ⟨_, rfl⟩
  obtain ⟨D2, hD2⟩ : ∃ x, (mgName (mgT f) t.name d).2 = x := ⟨_, rfl⟩
  rw [hX, hD2] at HC
  rw [hX, hD2]
  rw [hD2] at hdlb
  have hdlb2 : D2.length + 1 ≤ 1000 := by rw [cnt_eq] at hdlb; omega
  clear hl hl2 h1 h2 h3 h4 h5 t1 t2 hty hX hD2 hmb hdb hnt hp hst hd hin0 HMG HL1 HPG hK
  go_enter Tryd.func104, Tryd.ntmps104
  go_wp2_with (first | (go_at_call 110; refine CI.out.mono ?_; rintro e w1 ⟨rfl, hw1⟩; have HR1 := hide (HRa.out.below hBa hw1); have HX1 := hide (block_below HX.out hw1); have x0 : w1.cell? ⟨w.heap.size, 0, none⟩ = some (.int .i64 1) := block_cell HX1.out 0; have x1 : w1.cell? ⟨w.heap.size, 1, none⟩ = some (.slice A1 n1 c1) := block_cell HX1.out 1; have x2 : w1.cell? ⟨w.heap.size, 2, none⟩ = some (.slice A2 n2 c2) := block_cell HX1.out 2; clear hw1) | (go_at_call 79; refine (HC.out w1 (HR0.out.trans HR1.out).be HR1.out.st (Nat.le_trans hBw (HR0.out.trans HR1.out).be.size)).mono ?_; rintro e w2 ⟨rfl, hr2⟩; have HR2 := hide (HR1.out.trans hr2); clear hr2))
  have hz2 := HR2.out.be.size
  have hBw2 := Nat.le_trans hBa hz2
  have HXT := hide (HR2.out.kept _ _ HX.out (fun e => by omega) HNR.out)
  obtain ⟨v, css, g1, g2, g3⟩ := HR2.out.st.st
  obtain ⟨A3, c3, rfl⟩ := own_sl g2
  have HNB := hide (show (Value.slice A3 D2.length c3).ownBlock ≠ some w.heap.size from fun e => by
    rcases HR2.out.row _ ⟨_, g1, e⟩ with h | h
    · exact HNR.out h
    · omega)
  have HG1 := hide g1
  have HG2 := hide g2
  have HG3 := hide g3
  have HTI := hide (HIN.out.below (HR0.out.trans HR2.out).be)
  have HFB : ∀ q, Below w2.heap.size w2 (w2.alloc (.cells #[.bool q] 4)).drew := fun q => ((Below.refl w2.heap.size w2).alloc (Nat.le_refl _) (.cells #[.bool q] 4)).trans (below_drewN (Below.refl w2.heap.size _) 1)
  have HFB1 := hide (HFB false)
  have HFB2 := hide (HFB true)
  have HT1 := hide (block_below HXT.out HFB1.out)
  have HT2 := hide (block_below HXT.out HFB2.out)
  have HM1 := hide (block_below HG1.out HFB1.out)
  have HM2 := hide (block_below HG1.out HFB2.out)
  have HO1 := hide (own_below HG2.out HFB1.out)
  have HO2 := hide (own_below HG2.out HFB2.out)
  have u0 : (w2.alloc (.cells #[.bool false] 4)).drew.cell? ⟨w.heap.size, 0, none⟩ = some (.int .i64 1) := block_cell HT1.out 0
  have u1 : (w2.alloc (.cells #[.bool false] 4)).drew.cell? ⟨w.heap.size, 1, none⟩ = some (.slice A1 n1 c1) := block_cell HT1.out 1
  have u2 : (w2.alloc (.cells #[.bool false] 4)).drew.cell? ⟨w.heap.size, 2, none⟩ = some (.slice A2 n2 c2) := block_cell HT1.out 2
  have u3 : (w2.alloc (.cells #[.bool false] 4)).drew.cell? ⟨r, 0, none⟩ = some (.slice A3 D2.length c3) := block_cell HM1.out 0
  have v0 : (w2.alloc (.cells #[.bool true] 4)).drew.cell? ⟨w.heap.size, 0, none⟩ = some (.int .i64 1) := block_cell HT2.out 0
  have v1 : (w2.alloc (.cells #[.bool true] 4)).drew.cell? ⟨w.heap.size, 1, none⟩ = some (.slice A1 n1 c1) := block_cell HT2.out 1
  have v2 : (w2.alloc (.cells #[.bool true] 4)).drew.cell? ⟨w.heap.size, 2, none⟩ = some (.slice A2 n2 c2) := block_cell HT2.out 2
  have v3 : (w2.alloc (.cells #[.bool true] 4)).drew.cell? ⟨r, 0, none⟩ = some (.slice A3 D2.length c3) := block_cell HM2.out 0
  clear g1 g2 g3 HFB
  go_region
  · obtain ⟨wf, hwf⟩ : ∃ x, (w2.alloc (.cells #[.bool false] 4)).drew = x := ⟨_, rfl⟩
    rw [hwf] at HFB1 HT1 HM1 HO1 u0 u1 u2 u3 ⊢
    clear hwf v0 v1 v2 v3 HT2 HM2 HO2 HFB2 hwa HX CI HC HRa
    go_wp2_with (fail)
    have HS1 : wf.drew.cell? ⟨r, 0, none⟩ = some (.slice A3 D2.length c3) ∧ wf.drew.cell? ⟨w.heap.size, 0, none⟩ = some (.int .i64 1) ∧ wf.drew.cell? ⟨w.heap.size, 1, none⟩ = some (.slice A1 n1 c1) ∧ wf.drew.cell? ⟨w.heap.size, 2, none⟩ = some (.slice A2 n2 c2) := ⟨u3, u0, u1, u2⟩
    refine wp_region_chain (fun W => W.cell? ⟨r, 0, none⟩ = some (.slice A3 D2.length c3) ∧ W.cell? ⟨w.heap.size, 0, none⟩ = some (.int .i64 1) ∧ W.cell? ⟨w.heap.size, 1, none⟩ = some (.slice A1 n1 c1) ∧ W.cell? ⟨w.heap.size, 2, none⟩ = some (.slice A2 n2 c2)) 7 (by as_aux_lemma => kernel_rfl) (N := 11) (by as_aux_lemma => kernel_rfl) ?_; intro hsh
    refine wpAnyC_take0 (i := 0) (k := 7) (v := ?_) (d := some 64) rfl (by rfl) (by as_aux_lemma => kernel_rfl) (by as_aux_lemma => kernel_rfl) (by as_aux_lemma => kernel_rfl) hsh (by decide) (by intro _ _ _ h; exact h) (by assumption) (Or.inl ⟨by rfl, ?hy⟩) ?_; (case hy => (intro W _; go_simp; (try with_reducible rfl))); clear hsh; intro hsh
    refine wpAnyC_take0 (i := 1) (k := 7) (v := ?_) (d := some 65) rfl (by rfl) (by as_aux_lemma => kernel_rfl) (by as_aux_lemma => kernel_rfl) (by as_aux_lemma => kernel_rfl) hsh (by decide) (by intro _ _ _ h; exact h) (by assumption) (Or.inl ⟨by rfl, ?hy⟩) ?_; (case hy => (intro W _; go_simp; (try with_reducible rfl))); clear hsh; intro hsh
    refine wpAnyC_take0 (i := 2) (k := 7) (v := ?_) (d := some 66) rfl (by rfl) (by as_aux_lemma => kernel_rfl) (by as_aux_lemma => kernel_rfl) (by as_aux_lemma => kernel_rfl) hsh (by decide) (by intro _ _ _ h; exact h) (by assumption) (Or.inl ⟨by rfl, ?hy⟩) ?_; (case hy => (intro W _; go_simp; (try with_reducible rfl))); clear hsh; intro hsh
    refine wpAnyC_take0 (i := 3) (k := 7) (v := ?_) (d := some 67) rfl (by rfl) (by as_aux_lemma => kernel_rfl) (by as_aux_lemma => kernel_rfl) (by as_aux_lemma => kernel_rfl) hsh (by decide) (by intro _ _ _ h; exact h) (by assumption) (Or.inl ⟨by rfl, ?hy⟩) ?_; (case hy => (intro W _; go_simp; (try with_reducible rfl))); clear hsh; intro hsh
    refine wpAnyC_take (i := 4) (k := 7) (f := 40) (v := ?_) (d := some 68) rfl (by rfl) (by as_aux_lemma => kernel_rfl) (by as_aux_lemma => kernel_rfl) (by as_aux_lemma => kernel_rfl) hsh (by decide) (by as_aux_lemma => kernel_rfl) (by intro _ _ _ h; exact h) (by assumption) (Or.inl ⟨by rfl, ?hy⟩) ?_; (case hy => (rintro W ⟨y0, y1, y2, y3⟩; go_simp; (try with_reducible rfl))); clear hsh; intro hsh
    refine wpAnyC_take (i := 5) (k := 7) (f := 40) (v := ?_) (d := some 69) rfl (by rfl) (by as_aux_lemma => kernel_rfl) (by as_aux_lemma => kernel_rfl) (by as_aux_lemma => kernel_rfl) hsh (by decide) (by as_aux_lemma => kernel_rfl) (by intro _ _ _ h; exact h) (by assumption) (Or.inl ⟨by rfl, ?hy⟩) ?_; (case hy => (rintro W ⟨y0, y1, y2, y3⟩; go_simp; (try with_reducible rfl))); clear hsh; intro hsh
    refine wpAnyC_ready (rs := [6]) (by as_aux_lemma => kernel_rfl) (by simp) ?_; refine AllC.cons (i := 6) rfl (by as_aux_lemma => kernel_rfl) hsh (fun K hK => ?_) AllC.nil
    go_simp
    have HBx : Hid (Below wf.heap.size wf (wf.drew.alloc (.cells #[.int .i64 1, .slice A1 n1 c1, .slice A2 n2 c2] 60))) := hide ((below_drewN (Below.refl wf.heap.size wf) 1).alloc (Nat.le_refl _) _)
    have HS2 : (wf.drew.alloc (.cells #[.int .i64 1, .slice A1 n1 c1, .slice A2 n2 c2] 60)).cell? ⟨r, 0, none⟩ = some (.slice A3 D2.length c3) ∧ (wf.drew.alloc (.cells #[.int .i64 1, .slice A1 n1 c1, .slice A2 n2 c2] 60)).cell? ⟨w.heap.size, 0, none⟩ = some (.int .i64 1) ∧ (wf.drew.alloc (.cells #[.int .i64 1, .slice A1 n1 c1, .slice A2 n2 c2] 60)).cell? ⟨w.heap.size, 1, none⟩ = some (.slice A1 n1 c1) ∧ (wf.drew.alloc (.cells #[.int .i64 1, .slice A1 n1 c1, .slice A2 n2 c2] 60)).cell? ⟨w.heap.size, 2, none⟩ = some (.slice A2 n2 c2) :=
      ⟨block_cell (block_below HM1.out HBx.out) 0, block_cell (block_below HT1.out HBx.out) 0, block_cell (block_below HT1.out HBx.out) 1, block_cell (block_below HT1.out HBx.out) 2⟩
    refine hK _ _ (fun _ => HS2) ?_
    clear hK K hsh HS1
    intro hsh
    refine wpAnyC_tail (by as_aux_lemma => kernel_rfl) (by simp) (by as_aux_lemma => kernel_rfl) ?_; simp only [List.drop_succ_cons, List.drop_zero]; clear hsh
    clear HS2
    go_simp
    have HOd := hide (own_below HO1.out (below_drewN (Below.refl wf.heap.size wf) 1))
    have HBd := hide (HFB1.out.trans ((below_drewN (Below.refl wf.heap.size wf) 1).mono HFB1.out.size))
    have hzf := HFB1.out.size
    refine wpList_append_own_at _ (by rfl) (.tmp 68) (.tmp 70) 23 (by rfl) B 60 i0 (.agg #[.int .i64 0, .slice none 0 0, .slice none 0 0]) 3 56 Tryd.underlying23 hi0 iz0 iz1 iz2 rfl (by decide) (.slice A3 D2.length c3) D2.length css.flatten (by rfl) (HOd.out.alloc _) ⟨wf.heap.size, 0, none⟩ 1 1 [.int .i64 1, .slice A1 n1 c1, .slice A2 n2 c2] (by rfl) (by rfl) (cells_new wf.drew [.int .i64 1, .slice A1 n1 c1, .slice A2 n2 c2] _) (by intro u hu; simp at hu; rcases hu with rfl | rfl | rfl <;> rfl) (by unfold maxLen; omega) (by omega) (Nat.le_trans hBw2 (HFB1.out.trans (HBx.out.mono hzf)).size) ?_
    intro v' w3 hown hgr _ hat
    have HP := hide (rg_push hBw2 HBr.out hdlb2 HG1.out HG2.out HG3.out HTI.out (HFB1.out.trans (HBx.out.mono hzf)) hown hgr hat)
    obtain ⟨ao, cp, rfl⟩ := own_sl hown
    have h1x := block_below HG1.out (HFB1.out.trans (HBx.out.mono hzf))
    have h13 : w3.heap[r]? = some (.cells #[.slice A3 D2.length c3] 124 (0, 0)) := (hgr.block r (lt_of_block h1x) (fun e => own_other' HG2.out HG1.out (by decide) e.symm)).trans h1x
    have b3 : w3.frozen? ⟨r, 0, none⟩ = false := block_free h13 0
    have b4 : w3.cell? ⟨r, 0, none⟩ = some (.slice A3 D2.length c3) := block_cell h13 0
    clear h1x h13
    clear hown hgr hat
    go_wp2_with (fail)
    go_ret
    exact ⟨rfl, HR0.out.trans (HR2.out.trans HP.out)⟩
  · obtain ⟨wf, hwf⟩ : ∃ x, (w2.alloc (.cells #[.bool true] 4)).drew = x := ⟨_, rfl⟩
    rw [hwf] at HFB2 HT2 HM2 HO2 v0 v1 v2 v3 ⊢
    clear hwf u0 u1 u2 u3 HT1 HM1 HO1 HFB1 hwa HX CI HC HRa
    have hzf := HFB2.out.size
    have HBx : Hid (Below wf.heap.size wf (wf.alloc (.cells #[.int .i64 0, .slice none 0 0, .slice none 0 0] 60))) := hide ((Below.refl wf.heap.size wf).alloc (Nat.le_refl _) _)
    have hrt : w.heap.size ≠ r := by omega
    have hlt : (D2.length : Int) < (D2.length : Int) + 1 := by omega
    have hfl : css.flatten.length = D2.length * 3 := by rw [flat3_len css HG3.out.all3, HG3.out.len]
    have HFL := hide (fun x y z : Value => show (css.flatten ++ [x, y, z])[D2.length * 3]? = some x by rw [List.getElem?_append_right (by omega), hfl]; simp)
    have HFL1 := hide (fun x y z : Value => show (css.flatten ++ [x, y, z])[D2.length * 3 + 1]? = some y by rw [List.getElem?_append_right (by omega), hfl]; simp)
    have HFL2 := hide (fun x y z : Value => show (css.flatten ++ [x, y, z])[D2.length * 3 + 2]? = some z by rw [List.getElem?_append_right (by omega), hfl]; simp)
    clear hfl
    go_wp2_with (at_builtin; refine wpList_append_own_at _ (by rfl) (.tmp 56) (.tmp 58) 23 (by rfl) B 60 i0 (.agg #[.int .i64 0, .slice none 0 0, .slice none 0 0]) 3 56 Tryd.underlying23 hi0 iz0 iz1 iz2 rfl (by decide) (.slice A3 D2.length c3) D2.length css.flatten (by rfl) (HO2.out.alloc _) ⟨wf.heap.size, 0, none⟩ 1 1 [.int .i64 0, .slice none 0 0, .slice none 0 0] (by rfl) (by rfl) (cells_new wf [.int .i64 0, .slice none 0 0, .slice none 0 0] _) (by intro u hu; simp at hu; rcases hu with rfl | rfl | rfl <;> rfl) (by unfold maxLen; omega) (by omega) (Nat.le_trans hBw2 (HFB2.out.trans (HBx.out.mono hzf)).size) ?_; intro v' w3 hown hgr _ hat; obtain ⟨g, cp, cur, rfl, hbg, hgb, hncp, hcpm, _⟩ := own_blk hown (Nat.succ_pos _); have HP := hide (rg_push (t := tyZero) hBw2 HBr.out hdlb2 HG1.out HG2.out HG3.out (tyZero_in w2 B _) (HFB2.out.trans (HBx.out.mono hzf)) hown hgr hat); have h1x := hide (block_below HG1.out (HFB2.out.trans (HBx.out.mono hzf))); have h13 : Hid (w3.heap[r]? = some (.cells #[.slice A3 D2.length c3] 124 (0, 0))) := hide ((hgr.block r (lt_of_block h1x.out) (fun e => own_other' HG2.out HG1.out (by decide) e.symm)).trans h1x.out); have b3 : w3.frozen? ⟨r, 0, none⟩ = false := block_free h13.out 0; have b4 : w3.cell? ⟨r, 0, none⟩ = some (.slice A3 D2.length c3) := block_cell h13.out 0; have HGT := hide ((hgr.block _ (lt_of_block (block_below HT2.out HBx.out)) (fun e => HNB.out e.symm)).trans (block_below HT2.out HBx.out)); have HOW := hide (ownsRow_setCell_other hown (a := ⟨r, 0, none⟩) (own_other' hown h13.out (by decide)) (.slice (some ⟨g, 0, none⟩) (D2.length + 1) cp)); have HB5 := hide (block_set h13.out (i := 0) (.slice (some ⟨g, 0, none⟩) (D2.length + 1) cp)); have HT5 := hide (block_set_other HGT.out ⟨r, 0, none⟩ (.slice (some ⟨g, 0, none⟩) (D2.length + 1) cp) hrt); have v0 : (w3.setCell ⟨r, 0, none⟩ (.slice (some ⟨g, 0, none⟩) (D2.length + 1) cp)).cell? ⟨w.heap.size, 0, none⟩ = some (.int .i64 1) := block_cell HT5.out 0; have v1 : (w3.setCell ⟨r, 0, none⟩ (.slice (some ⟨g, 0, none⟩) (D2.length + 1) cp)).cell? ⟨w.heap.size, 1, none⟩ = some (.slice A1 n1 c1) := block_cell HT5.out 1; have v2 : (w3.setCell ⟨r, 0, none⟩ (.slice (some ⟨g, 0, none⟩) (D2.length + 1) cp)).cell? ⟨w.heap.size, 2, none⟩ = some (.slice A2 n2 c2) := block_cell HT5.out 2; have q0 : (w3.setCell ⟨r, 0, none⟩ (.slice (some ⟨g, 0, none⟩) (D2.length + 1) cp)).cell? ⟨g, D2.length * 3, none⟩ = some (.int .i64 0) := own_cell HOW.out _ _ (HFL.out _ _ _); have q1 : (w3.setCell ⟨r, 0, none⟩ (.slice (some ⟨g, 0, none⟩) (D2.length + 1) cp)).cell? ⟨g, D2.length * 3 + 1, none⟩ = some (.slice none 0 0) := own_cell HOW.out _ _ (HFL1.out _ _ _); have q2 : (w3.setCell ⟨r, 0, none⟩ (.slice (some ⟨g, 0, none⟩) (D2.length + 1) cp)).cell? ⟨g, D2.length * 3 + 2, none⟩ = some (.slice none 0 0) := own_cell HOW.out _ _ (HFL2.out _ _ _); have z0 : (w3.setCell ⟨r, 0, none⟩ (.slice (some ⟨g, 0, none⟩) (D2.length + 1) cp)).frozen? ⟨g, D2.length * 3, none⟩ = false := own_free HOW.out _; have z1 : (w3.setCell ⟨r, 0, none⟩ (.slice (some ⟨g, 0, none⟩) (D2.length + 1) cp)).frozen? ⟨g, D2.length * 3 + 1, none⟩ = false := own_free HOW.out _; have z2 : (w3.setCell ⟨r, 0, none⟩ (.slice (some ⟨g, 0, none⟩) (D2.length + 1) cp)).frozen? ⟨g, D2.length * 3 + 2, none⟩ = false := own_free HOW.out _; have HQ := hide (rg_set (t := t) (Nat.le_trans hBw2 HP.out.be.size) HBr.out rfl hdlb2 HB5.out HOW.out (HG3.out.below HP.out.be) (HTI.out.below HP.out.be)); clear hown hgr hat)
    go_ret
    exact ⟨rfl, HR0.out.trans (HR2.out.trans (HP.out.trans HQ.out))⟩
set_option maxRecDepth 100000 in
set_option maxHeartbeats 8000000 in
theorem rOne_k2 {f : Nat} (HO : rOneOkM f) (k : Nat) (t : Ty) (cs : List Value) (B r : Nat) (d : List Ty) (w : World) (hin : TyIn w B k t cs) (hgt : Good (f + 1) t ∧ Txt (f + 1) t) (hf12 : f + 1 ≤ 12) (hd : DOk d) (hdc : d.length + cnt (f + 1) t ≤ 999) (hc5 : cnt (f + 1) t ≤ 500) (hp : plc d t = none) (hst : RgS B r k d w) (hBw : B ≤ w.heap.size) (hK : t.kind = 2) :
    Calls Tryd.prog 104 #[.pointer (some ⟨r, 0, none⟩), .agg cs.toArray] w fun e w' => e = .returned (.string ⟨(mgT (f + 1) t d).1.toArray⟩) ∧ RgR B r k (mgT (f + 1) t d).2 w w' := by
  have hin0 := hin
  obtain ⟨hg, htx⟩ := hgt
  obtain ⟨hnt, hdb, hdlb⟩ := body_new hf12 ⟨hg, htx⟩ hd hp
  have HA := hide ((Below.refl w.heap.size w).alloc (Nat.le_refl _) (.cells cs.toArray 60))
  have HX := hide (heap_alloc_new w (.cells cs.toArray 60))
  have HR0 := hide ((RgR.refl hst).below hBw HA.out)
  have hrl := hst.lt
  obtain ⟨i0, hi0, iz0, iz1, iz2⟩ := info_parts info_tyR
  have HBr := hide hst.hB
  have HNR := hide (show ¬ RowB r (w.alloc (.cells cs.toArray 60)) w.heap.size from fun ⟨v, e1, e2⟩ => by
    rw [HA.out.block r hrl] at e1
    exact absurd (rowB_lt hst ⟨v, e1, e2⟩) (Nat.lt_irrefl _))
  obtain ⟨wa, hwa⟩ : ∃ x, w.alloc (.cells cs.toArray 60) = x := ⟨_, rfl⟩
  have hBa : B ≤ wa.heap.size := by rw [← hwa]; exact Nat.le_trans hBw HA.out.size
  rw [hwa] at HA HX HR0 HNR
  obtain ⟨A, c, hc0, hty⟩ := HR0.out.st.tys hBa
  have hdl := hst.len
  have CI := hide (IdxT_any k t cs w.heap.size A d.length c d wa (by unfold maxLen; omega) hty ((hin.below (HA.out.mono hBw)).more hBa) HX.out)
  rw [show plcI d t = -1 by unfold plcI; rw [hp]] at CI
  rw [cnt_eq] at hdc hc5
  have htbl : w.heap.size < wa.heap.size := lt_of_block HX.out
  have HMG := hide (show (mgT (f + 1) t d).1 = (mgBody (mgT f) t d).1 ∧ (mgT (f + 1) t d).2 = (mgBody (mgT f) t d).2 ++ [t] from ⟨by rw [mgT, hp], by rw [mgT, hp]⟩)
  rw [HMG.out.1, HMG.out.2]
  have HIN := hide hin0
  cases k with
  | zero => exact hin.elim
  | succ k =>
  obtain ⟨A1, n1, c1, A2, n2, c2, rfl, hn, hm, hn2, hm2, hl, hl2⟩ := hin
  obtain ⟨⟨hk1, hk4⟩, h1, h2, h3, h4, h5⟩ := hg
  obtain ⟨t1, t2⟩ := htx
  have HKK := hide hK
  rw [hK] at h1 h2 h3 HX hwa HIN ⊢
  have HRa := hide (RgR.refl HR0.out.st)
  have HD := hide hd
  obtain ⟨hn0, hp1, hp2⟩ := h2 (by decide)
  have hn1 := h3 (by decide)
  have hnl := hl2.len
  obtain ⟨o, q, u, cu, rfl, ho, hu, hinu, hcu⟩ := hl2.at_ (k := 0) (by omega)
  have hof : t.of = [u] := by
    match hL : t.of, hn1 with
    | [y], _ => rw [hL] at hu; simp at hu; rw [hu]
  have hum := List.mem_of_getElem? hu
  have HUG := hide (⟨h5 u hum, t2 u hum⟩ : Good f u ∧ Txt f u)
  have hcn : cntTys f t.of = cnt f u := by rw [hof]; simp [cntTys, sumN]
  have hmb : mgBody (mgT f) t d = (82 :: (mgT f u d).1, (mgT f u d).2) := by unfold mgBody; rw [if_neg (by rw [HKK.out]; decide), if_neg (by rw [HKK.out]; decide), if_pos (by rw [HKK.out]), hof]; simp [mgFold]
  have hlen := mgT_len f u d (by omega) HUG.out HD.out (by omega)
  have HC := hide (fun w1 (hb : Below B w w1) h => HO (k + 1) u cu B r d w1 ((hinu.below hb).deep (Nat.le_succ _)) HUG.out (by omega) HD.out (by omega) (by omega) h)
  rw [hmb]
  rw [hmb] at hdlb
  obtain ⟨X, hX⟩ : ∃ X : ByteArray, ⟨(mgT f u d).1.toArray⟩ = X := ⟨_, rfl⟩
  obtain ⟨D2, hD2⟩ : ∃ x, (mgT f u d).2 = x := ⟨_, rfl⟩
  have HXX := hide (show X.data.toList = (mgT f u d).1 by rw [← hX])
  have hXl : X.size ≤ 710000 := by
    have h1 : X.size = (mgT f u d).1.length := by rw [← hX]; rfl
    omega
  rw [hX, hD2] at HC
  have HE := hide (show (⟨(82 :: (mgT f u d).1).toArray⟩ : ByteArray) = (⟨#[82]⟩ : ByteArray) ++ X from (str_eq (by rw [app_toL, HXX.out]; simp)).symm)
  simp only [] at hdlb ⊢
  rw [HE.out, hD2]
  rw [hD2] at hdlb
  have hdlb2 : D2.length + 1 ≤ 1000 := by rw [cnt_eq] at hdlb; omega
  have s70 : (⟨#[82]⟩ : ByteArray).size = 1 := rfl
  have nb1 : ¬ 9223372036854775807 < 1 + X.size := by omega
  have hn2p : (0 : Int) < (n2 : Int) := by omega
  cases k with
  | zero => exact hinu.elim
  | succ k =>
  obtain ⟨F1, m1, e1, F2, m2, e2, rfl, _⟩ := hinu
  have HCU := hide hcu
  clear hl hcu h1 h2 h3 h4 h5 t1 t2 hty hX hD2 hmb hdb hnt hp hst hd hin0 HMG hK HXX HE hof hum hcn hu HUG
  go_enter Tryd.func104, Tryd.ntmps104
  go_wp2_with (first | (go_at_call 110; refine CI.out.mono ?_; rintro e w1 ⟨rfl, hw1⟩; have HR1 := hide (HRa.out.below hBa hw1); have HX1 := hide (block_below HX.out hw1); have x0 : w1.cell? ⟨w.heap.size, 0, none⟩ = some (.int .i64 2) := block_cell HX1.out 0; have x1 : w1.cell? ⟨w.heap.size, 1, none⟩ = some (.slice A1 n1 c1) := block_cell HX1.out 1; have x2 : w1.cell? ⟨w.heap.size, 2, none⟩ = some (.slice (some ⟨o, q, none⟩) n2 c2) := block_cell HX1.out 2; have HBB := hide (HR0.out.trans HR1.out).be; have cc0 : w1.cell? ⟨o, q, none⟩ = some (.int .i64 u.kind) := (HBB.out.cell (p := ⟨o, q, none⟩) ho).trans (by simpa using HCU.out 0 _ rfl); have cc1 : w1.cell? ⟨o, q + 1, none⟩ = some (.slice F1 m1 e1) := (HBB.out.cell (p := ⟨o, q + 1, none⟩) ho).trans (by simpa using HCU.out 1 _ rfl); have cc2 : w1.cell? ⟨o, q + 2, none⟩ = some (.slice F2 m2 e2) := (HBB.out.cell (p := ⟨o, q + 2, none⟩) ho).trans (by simpa using HCU.out 2 _ rfl); clear hw1) | (go_at_call 104; refine (HC.out w1 (HR0.out.trans HR1.out).be HR1.out.st (Nat.le_trans hBw (HR0.out.trans HR1.out).be.size)).mono ?_; rintro e w2 ⟨rfl, hr2⟩; have HR2 := hide (HR1.out.trans hr2); clear hr2))
  have hz2 := HR2.out.be.size
  have hBw2 := Nat.le_trans hBa hz2
  have HXT := hide (HR2.out.kept _ _ HX.out (fun e => by omega) HNR.out)
  obtain ⟨v, css, g1, g2, g3⟩ := HR2.out.st.st
  obtain ⟨A3, c3, rfl⟩ := own_sl g2
  have HNB := hide (show (Value.slice A3 D2.length c3).ownBlock ≠ some w.heap.size from fun e => by
    rcases HR2.out.row _ ⟨_, g1, e⟩ with h | h
    · exact HNR.out h
    · omega)
  have HG1 := hide g1
  have HG2 := hide g2
  have HG3 := hide g3
  have HTI := hide (HIN.out.below (HR0.out.trans HR2.out).be)
  have HFB : ∀ q, Below w2.heap.size w2 (w2.alloc (.cells #[.bool q] 4)).drew := fun q => ((Below.refl w2.heap.size w2).alloc (Nat.le_refl _) (.cells #[.bool q] 4)).trans (below_drewN (Below.refl w2.heap.size _) 1)
  have HFB1 := hide (HFB false)
  have HFB2 := hide (HFB true)
  have HT1 := hide (block_below HXT.out HFB1.out)
  have HT2 := hide (block_below HXT.out HFB2.out)
  have HM1 := hide (block_below HG1.out HFB1.out)
  have HM2 := hide (block_below HG1.out HFB2.out)
  have HO1 := hide (own_below HG2.out HFB1.out)
  have HO2 := hide (own_below HG2.out HFB2.out)
  have u0 : (w2.alloc (.cells #[.bool false] 4)).drew.cell? ⟨w.heap.size, 0, none⟩ = some (.int .i64 2) := block_cell HT1.out 0
  have u1 : (w2.alloc (.cells #[.bool false] 4)).drew.cell? ⟨w.heap.size, 1, none⟩ = some (.slice A1 n1 c1) := block_cell HT1.out 1
  have u2 : (w2.alloc (.cells #[.bool false] 4)).drew.cell? ⟨w.heap.size, 2, none⟩ = some (.slice (some ⟨o, q, none⟩) n2 c2) := block_cell HT1.out 2
  have u3 : (w2.alloc (.cells #[.bool false] 4)).drew.cell? ⟨r, 0, none⟩ = some (.slice A3 D2.length c3) := block_cell HM1.out 0
  have v0 : (w2.alloc (.cells #[.bool true] 4)).drew.cell? ⟨w.heap.size, 0, none⟩ = some (.int .i64 2) := block_cell HT2.out 0
  have v1 : (w2.alloc (.cells #[.bool true] 4)).drew.cell? ⟨w.heap.size, 1, none⟩ = some (.slice A1 n1 c1) := block_cell HT2.out 1
  have v2 : (w2.alloc (.cells #[.bool true] 4)).drew.cell? ⟨w.heap.size, 2, none⟩ = some (.slice (some ⟨o, q, none⟩) n2 c2) := block_cell HT2.out 2
  have v3 : (w2.alloc (.cells #[.bool true] 4)).drew.cell? ⟨r, 0, none⟩ = some (.slice A3 D2.length c3) := block_cell HM2.out 0
  clear g1 g2 g3 HFB
  go_region
  · obtain ⟨wf, hwf⟩ : ∃ x, (w2.alloc (.cells #[.bool false] 4)).drew = x := ⟨_, rfl⟩
    rw [hwf] at HFB1 HT1 HM1 HO1 u0 u1 u2 u3 ⊢
    clear hwf v0 v1 v2 v3 HT2 HM2 HO2 HFB2 hwa HX CI HC HRa
    go_wp2_with (fail)
    have HS1 : wf.drew.cell? ⟨r, 0, none⟩ = some (.slice A3 D2.length c3) ∧ wf.drew.cell? ⟨w.heap.size, 0, none⟩ = some (.int .i64 2) ∧ wf.drew.cell? ⟨w.heap.size, 1, none⟩ = some (.slice A1 n1 c1) ∧ wf.drew.cell? ⟨w.heap.size, 2, none⟩ = some (.slice (some ⟨o, q, none⟩) n2 c2) := ⟨u3, u0, u1, u2⟩
    refine wp_region_chain (fun W => W.cell? ⟨r, 0, none⟩ = some (.slice A3 D2.length c3) ∧ W.cell? ⟨w.heap.size, 0, none⟩ = some (.int .i64 2) ∧ W.cell? ⟨w.heap.size, 1, none⟩ = some (.slice A1 n1 c1) ∧ W.cell? ⟨w.heap.size, 2, none⟩ = some (.slice (some ⟨o, q, none⟩) n2 c2)) 7 (by as_aux_lemma => kernel_rfl) (N := 11) (by as_aux_lemma => kernel_rfl) ?_; intro hsh
    refine wpAnyC_take0 (i := 0) (k := 7) (v := ?_) (d := some 64) rfl (by rfl) (by as_aux_lemma => kernel_rfl) (by as_aux_lemma => kernel_rfl) (by as_aux_lemma => kernel_rfl) hsh (by decide) (by intro _ _ _ h; exact h) (by assumption) (Or.inl ⟨by rfl, ?hy⟩) ?_; (case hy => (intro W _; go_simp; (try with_reducible rfl))); clear hsh; intro hsh
    refine wpAnyC_take0 (i := 1) (k := 7) (v := ?_) (d := some 65) rfl (by rfl) (by as_aux_lemma => kernel_rfl) (by as_aux_lemma => kernel_rfl) (by as_aux_lemma => kernel_rfl) hsh (by decide) (by intro _ _ _ h; exact h) (by assumption) (Or.inl ⟨by rfl, ?hy⟩) ?_; (case hy => (intro W _; go_simp; (try with_reducible rfl))); clear hsh; intro hsh
    refine wpAnyC_take0 (i := 2) (k := 7) (v := ?_) (d := some 66) rfl (by rfl) (by as_aux_lemma => kernel_rfl) (by as_aux_lemma => kernel_rfl) (by as_aux_lemma => kernel_rfl) hsh (by decide) (by intro _ _ _ h; exact h) (by assumption) (Or.inl ⟨by rfl, ?hy⟩) ?_; (case hy => (intro W _; go_simp; (try with_reducible rfl))); clear hsh; intro hsh
    refine wpAnyC_take0 (i := 3) (k := 7) (v := ?_) (d := some 67) rfl (by rfl) (by as_aux_lemma => kernel_rfl) (by as_aux_lemma => kernel_rfl) (by as_aux_lemma => kernel_rfl) hsh (by decide) (by intro _ _ _ h; exact h) (by assumption) (Or.inl ⟨by rfl, ?hy⟩) ?_; (case hy => (intro W _; go_simp; (try with_reducible rfl))); clear hsh; intro hsh
    refine wpAnyC_take (i := 4) (k := 7) (f := 40) (v := ?_) (d := some 68) rfl (by rfl) (by as_aux_lemma => kernel_rfl) (by as_aux_lemma => kernel_rfl) (by as_aux_lemma => kernel_rfl) hsh (by decide) (by as_aux_lemma => kernel_rfl) (by intro _ _ _ h; exact h) (by assumption) (Or.inl ⟨by rfl, ?hy⟩) ?_; (case hy => (rintro W ⟨y0, y1, y2, y3⟩; go_simp; (try with_reducible rfl))); clear hsh; intro hsh
    refine wpAnyC_take (i := 5) (k := 7) (f := 40) (v := ?_) (d := some 69) rfl (by rfl) (by as_aux_lemma => kernel_rfl) (by as_aux_lemma => kernel_rfl) (by as_aux_lemma => kernel_rfl) hsh (by decide) (by as_aux_lemma => kernel_rfl) (by intro _ _ _ h; exact h) (by assumption) (Or.inl ⟨by rfl, ?hy⟩) ?_; (case hy => (rintro W ⟨y0, y1, y2, y3⟩; go_simp; (try with_reducible rfl))); clear hsh; intro hsh
    refine wpAnyC_ready (rs := [6]) (by as_aux_lemma => kernel_rfl) (by simp) ?_; refine AllC.cons (i := 6) rfl (by as_aux_lemma => kernel_rfl) hsh (fun K hK => ?_) AllC.nil
    go_simp
    have HBx : Hid (Below wf.heap.size wf (wf.drew.alloc (.cells #[.int .i64 2, .slice A1 n1 c1, .slice (some ⟨o, q, none⟩) n2 c2] 60))) := hide ((below_drewN (Below.refl wf.heap.size wf) 1).alloc (Nat.le_refl _) _)
    have HS2 : (wf.drew.alloc (.cells #[.int .i64 2, .slice A1 n1 c1, .slice (some ⟨o, q, none⟩) n2 c2] 60)).cell? ⟨r, 0, none⟩ = some (.slice A3 D2.length c3) ∧ (wf.drew.alloc (.cells #[.int .i64 2, .slice A1 n1 c1, .slice (some ⟨o, q, none⟩) n2 c2] 60)).cell? ⟨w.heap.size, 0, none⟩ = some (.int .i64 2) ∧ (wf.drew.alloc (.cells #[.int .i64 2, .slice A1 n1 c1, .slice (some ⟨o, q, none⟩) n2 c2] 60)).cell? ⟨w.heap.size, 1, none⟩ = some (.slice A1 n1 c1) ∧ (wf.drew.alloc (.cells #[.int .i64 2, .slice A1 n1 c1, .slice (some ⟨o, q, none⟩) n2 c2] 60)).cell? ⟨w.heap.size, 2, none⟩ = some (.slice (some ⟨o, q, none⟩) n2 c2) :=
      ⟨block_cell (block_below HM1.out HBx.out) 0, block_cell (block_below HT1.out HBx.out) 0, block_cell (block_below HT1.out HBx.out) 1, block_cell (block_below HT1.out HBx.out) 2⟩
    refine hK _ _ (fun _ => HS2) ?_
    clear hK K hsh HS1
    intro hsh
    refine wpAnyC_tail (by as_aux_lemma => kernel_rfl) (by simp) (by as_aux_lemma => kernel_rfl) ?_; simp only [List.drop_succ_cons, List.drop_zero]; clear hsh
    clear HS2
    go_simp
    have HOd := hide (own_below HO1.out (below_drewN (Below.refl wf.heap.size wf) 1))
    have HBd := hide (HFB1.out.trans ((below_drewN (Below.refl wf.heap.size wf) 1).mono HFB1.out.size))
    have hzf := HFB1.out.size
    refine wpList_append_own_at _ (by rfl) (.tmp 68) (.tmp 70) 23 (by rfl) B 60 i0 (.agg #[.int .i64 0, .slice none 0 0, .slice none 0 0]) 3 56 Tryd.underlying23 hi0 iz0 iz1 iz2 rfl (by decide) (.slice A3 D2.length c3) D2.length css.flatten (by rfl) (HOd.out.alloc _) ⟨wf.heap.size, 0, none⟩ 1 1 [.int .i64 2, .slice A1 n1 c1, .slice (some ⟨o, q, none⟩) n2 c2] (by rfl) (by rfl) (cells_new wf.drew [.int .i64 2, .slice A1 n1 c1, .slice (some ⟨o, q, none⟩) n2 c2] _) (by intro u hu; simp at hu; rcases hu with rfl | rfl | rfl <;> rfl) (by unfold maxLen; omega) (by omega) (Nat.le_trans hBw2 (HFB1.out.trans (HBx.out.mono hzf)).size) ?_
    intro v' w3 hown hgr _ hat
    have HP := hide (rg_push hBw2 HBr.out hdlb2 HG1.out HG2.out HG3.out HTI.out (HFB1.out.trans (HBx.out.mono hzf)) hown hgr hat)
    obtain ⟨ao, cp, rfl⟩ := own_sl hown
    have h1x := block_below HG1.out (HFB1.out.trans (HBx.out.mono hzf))
    have h13 : w3.heap[r]? = some (.cells #[.slice A3 D2.length c3] 124 (0, 0)) := (hgr.block r (lt_of_block h1x) (fun e => own_other' HG2.out HG1.out (by decide) e.symm)).trans h1x
    have b3 : w3.frozen? ⟨r, 0, none⟩ = false := block_free h13 0
    have b4 : w3.cell? ⟨r, 0, none⟩ = some (.slice A3 D2.length c3) := block_cell h13 0
    clear h1x h13
    clear hown hgr hat
    go_wp2_with (fail)
    go_ret
    exact ⟨rfl, HR0.out.trans (HR2.out.trans HP.out)⟩
  · obtain ⟨wf, hwf⟩ : ∃ x, (w2.alloc (.cells #[.bool true] 4)).drew = x := ⟨_, rfl⟩
    rw [hwf] at HFB2 HT2 HM2 HO2 v0 v1 v2 v3 ⊢
    clear hwf u0 u1 u2 u3 HT1 HM1 HO1 HFB1 hwa HX CI HC HRa
    have hzf := HFB2.out.size
    have HBx : Hid (Below wf.heap.size wf (wf.alloc (.cells #[.int .i64 0, .slice none 0 0, .slice none 0 0] 60))) := hide ((Below.refl wf.heap.size wf).alloc (Nat.le_refl _) _)
    have hrt : w.heap.size ≠ r := by omega
    have hlt : (D2.length : Int) < (D2.length : Int) + 1 := by omega
    have hfl : css.flatten.length = D2.length * 3 := by rw [flat3_len css HG3.out.all3, HG3.out.len]
    have HFL := hide (fun x y z : Value => show (css.flatten ++ [x, y, z])[D2.length * 3]? = some x by rw [List.getElem?_append_right (by omega), hfl]; simp)
    have HFL1 := hide (fun x y z : Value => show (css.flatten ++ [x, y, z])[D2.length * 3 + 1]? = some y by rw [List.getElem?_append_right (by omega), hfl]; simp)
    have HFL2 := hide (fun x y z : Value => show (css.flatten ++ [x, y, z])[D2.length * 3 + 2]? = some z by rw [List.getElem?_append_right (by omega), hfl]; simp)
    clear hfl
    go_wp2_with (at_builtin; refine wpList_append_own_at _ (by rfl) (.tmp 56) (.tmp 58) 23 (by rfl) B 60 i0 (.agg #[.int .i64 0, .slice none 0 0, .slice none 0 0]) 3 56 Tryd.underlying23 hi0 iz0 iz1 iz2 rfl (by decide) (.slice A3 D2.length c3) D2.length css.flatten (by rfl) (HO2.out.alloc _) ⟨wf.heap.size, 0, none⟩ 1 1 [.int .i64 0, .slice none 0 0, .slice none 0 0] (by rfl) (by rfl) (cells_new wf [.int .i64 0, .slice none 0 0, .slice none 0 0] _) (by intro u hu; simp at hu; rcases hu with rfl | rfl | rfl <;> rfl) (by unfold maxLen; omega) (by omega) (Nat.le_trans hBw2 (HFB2.out.trans (HBx.out.mono hzf)).size) ?_; intro v' w3 hown hgr _ hat; obtain ⟨g, cp, cur, rfl, hbg, hgb, hncp, hcpm, _⟩ := own_blk hown (Nat.succ_pos _); have HP := hide (rg_push (t := tyZero) hBw2 HBr.out hdlb2 HG1.out HG2.out HG3.out (tyZero_in w2 B _) (HFB2.out.trans (HBx.out.mono hzf)) hown hgr hat); have h1x := hide (block_below HG1.out (HFB2.out.trans (HBx.out.mono hzf))); have h13 : Hid (w3.heap[r]? = some (.cells #[.slice A3 D2.length c3] 124 (0, 0))) := hide ((hgr.block r (lt_of_block h1x.out) (fun e => own_other' HG2.out HG1.out (by decide) e.symm)).trans h1x.out); have b3 : w3.frozen? ⟨r, 0, none⟩ = false := block_free h13.out 0; have b4 : w3.cell? ⟨r, 0, none⟩ = some (.slice A3 D2.length c3) := block_cell h13.out 0; have HGT := hide ((hgr.block _ (lt_of_block (block_below HT2.out HBx.out)) (fun e => HNB.out e.symm)).trans (block_below HT2.out HBx.out)); have HOW := hide (ownsRow_setCell_other hown (a := ⟨r, 0, none⟩) (own_other' hown h13.out (by decide)) (.slice (some ⟨g, 0, none⟩) (D2.length + 1) cp)); have HB5 := hide (block_set h13.out (i := 0) (.slice (some ⟨g, 0, none⟩) (D2.length + 1) cp)); have HT5 := hide (block_set_other HGT.out ⟨r, 0, none⟩ (.slice (some ⟨g, 0, none⟩) (D2.length + 1) cp) hrt); have v0 : (w3.setCell ⟨r, 0, none⟩ (.slice (some ⟨g, 0, none⟩) (D2.length + 1) cp)).cell? ⟨w.heap.size, 0, none⟩ = some (.int .i64 2) := block_cell HT5.out 0; have v1 : (w3.setCell ⟨r, 0, none⟩ (.slice (some ⟨g, 0, none⟩) (D2.length + 1) cp)).cell? ⟨w.heap.size, 1, none⟩ = some (.slice A1 n1 c1) := block_cell HT5.out 1; have v2 : (w3.setCell ⟨r, 0, none⟩ (.slice (some ⟨g, 0, none⟩) (D2.length + 1) cp)).cell? ⟨w.heap.size, 2, none⟩ = some (.slice (some ⟨o, q, none⟩) n2 c2) := block_cell HT5.out 2; have q0 : (w3.setCell ⟨r, 0, none⟩ (.slice (some ⟨g, 0, none⟩) (D2.length + 1) cp)).cell? ⟨g, D2.length * 3, none⟩ = some (.int .i64 0) := own_cell HOW.out _ _ (HFL.out _ _ _); have q1 : (w3.setCell ⟨r, 0, none⟩ (.slice (some ⟨g, 0, none⟩) (D2.length + 1) cp)).cell? ⟨g, D2.length * 3 + 1, none⟩ = some (.slice none 0 0) := own_cell HOW.out _ _ (HFL1.out _ _ _); have q2 : (w3.setCell ⟨r, 0, none⟩ (.slice (some ⟨g, 0, none⟩) (D2.length + 1) cp)).cell? ⟨g, D2.length * 3 + 2, none⟩ = some (.slice none 0 0) := own_cell HOW.out _ _ (HFL2.out _ _ _); have z0 : (w3.setCell ⟨r, 0, none⟩ (.slice (some ⟨g, 0, none⟩) (D2.length + 1) cp)).frozen? ⟨g, D2.length * 3, none⟩ = false := own_free HOW.out _; have z1 : (w3.setCell ⟨r, 0, none⟩ (.slice (some ⟨g, 0, none⟩) (D2.length + 1) cp)).frozen? ⟨g, D2.length * 3 + 1, none⟩ = false := own_free HOW.out _; have z2 : (w3.setCell ⟨r, 0, none⟩ (.slice (some ⟨g, 0, none⟩) (D2.length + 1) cp)).frozen? ⟨g, D2.length * 3 + 2, none⟩ = false := own_free HOW.out _; have HQ := hide (rg_set (t := t) (Nat.le_trans hBw2 HP.out.be.size) HBr.out rfl hdlb2 HB5.out HOW.out (HG3.out.below HP.out.be) (HTI.out.below HP.out.be)); clear hown hgr hat)
    go_ret
    exact ⟨rfl, HR0.out.trans (HR2.out.trans (HP.out.trans HQ.out))⟩
set_option maxRecDepth 100000 in
set_option maxHeartbeats 8000000 in
theorem rOne_k3 {f : Nat} (HO : rOneOkM f) (k : Nat) (t : Ty) (cs : List Value) (B r : Nat) (d : List Ty) (w : World) (hin : TyIn w B k t cs) (hgt : Good (f + 1) t ∧ Txt (f + 1) t) (hf12 : f + 1 ≤ 12) (hd : DOk d) (hdc : d.length + cnt (f + 1) t ≤ 999) (hc5 : cnt (f + 1) t ≤ 500) (hp : plc d t = none) (hst : RgS B r k d w) (hBw : B ≤ w.heap.size) (hK : t.kind = 3) :
    Calls Tryd.prog 104 #[.pointer (some ⟨r, 0, none⟩), .agg cs.toArray] w fun e w' => e = .returned (.string ⟨(mgT (f + 1) t d).1.toArray⟩) ∧ RgR B r k (mgT (f + 1) t d).2 w w' := by
  have hin0 := hin
  obtain ⟨hg, htx⟩ := hgt
  obtain ⟨hnt, hdb, hdlb⟩ := body_new hf12 ⟨hg, htx⟩ hd hp
  have HA := hide ((Below.refl w.heap.size w).alloc (Nat.le_refl _) (.cells cs.toArray 60))
  have HX := hide (heap_alloc_new w (.cells cs.toArray 60))
  have HR0 := hide ((RgR.refl hst).below hBw HA.out)
  have hrl := hst.lt
  obtain ⟨i0, hi0, iz0, iz1, iz2⟩ := info_parts info_tyR
  have HBr := hide hst.hB
  have HNR := hide (show ¬ RowB r (w.alloc (.cells cs.toArray 60)) w.heap.size from fun ⟨v, e1, e2⟩ => by
    rw [HA.out.block r hrl] at e1
    exact absurd (rowB_lt hst ⟨v, e1, e2⟩) (Nat.lt_irrefl _))
  obtain ⟨wa, hwa⟩ : ∃ x, w.alloc (.cells cs.toArray 60) = x := ⟨_, rfl⟩
  have hBa : B ≤ wa.heap.size := by rw [← hwa]; exact Nat.le_trans hBw HA.out.size
  rw [hwa] at HA HX HR0 HNR
  obtain ⟨A, c, hc0, hty⟩ := HR0.out.st.tys hBa
  have hdl := hst.len
  have CI := hide (IdxT_any k t cs w.heap.size A d.length c d wa (by unfold maxLen; omega) hty ((hin.below (HA.out.mono hBw)).more hBa) HX.out)
  rw [show plcI d t = -1 by unfold plcI; rw [hp]] at CI
  rw [cnt_eq] at hdc hc5
  have htbl : w.heap.size < wa.heap.size := lt_of_block HX.out
  have HMG := hide (show (mgT (f + 1) t d).1 = (mgBody (mgT f) t d).1 ∧ (mgT (f + 1) t d).2 = (mgBody (mgT f) t d).2 ++ [t] from ⟨by rw [mgT, hp], by rw [mgT, hp]⟩)
  rw [HMG.out.1, HMG.out.2]
  have HIN := hide hin0
  cases k with
  | zero => exact hin.elim
  | succ k =>
  obtain ⟨A1, n1, c1, A2, n2, c2, rfl, hn, hm, hn2, hm2, hl, hl2⟩ := hin
  obtain ⟨⟨hk1, hk4⟩, h1, h2, h3, h4, h5⟩ := hg
  obtain ⟨t1, t2⟩ := htx
  have HKK := hide hK
  rw [hK] at h1 h2 h3 HX hwa HIN ⊢
  have HRa := hide (RgR.refl HR0.out.st)
  have HD := hide hd
  obtain ⟨hn0, hp1, hp2⟩ := h2 (by decide)
  have hn1 := h3 (by decide)
  have hnl := hl2.len
  obtain ⟨o, q, u, cu, rfl, ho, hu, hinu, hcu⟩ := hl2.at_ (k := 0) (by omega)
  have hof : t.of = [u] := by
    match hL : t.of, hn1 with
    | [y], _ => rw [hL] at hu; simp at hu; rw [hu]
  have hum := List.mem_of_getElem? hu
  have HUG := hide (⟨h5 u hum, t2 u hum⟩ : Good f u ∧ Txt f u)
  have hcn : cntTys f t.of = cnt f u := by rw [hof]; simp [cntTys, sumN]
  have hmb : mgBody (mgT f) t d = (76 :: (mgT f u d).1, (mgT f u d).2) := by unfold mgBody; rw [if_neg (by rw [HKK.out]; decide), if_neg (by rw [HKK.out]; decide), if_neg (by rw [HKK.out]; decide), hof]; simp [mgFold]
  have hlen := mgT_len f u d (by omega) HUG.out HD.out (by omega)
  have HC := hide (fun w1 (hb : Below B w w1) h => HO (k + 1) u cu B r d w1 ((hinu.below hb).deep (Nat.le_succ _)) HUG.out (by omega) HD.out (by omega) (by omega) h)
  rw [hmb]
  rw [hmb] at hdlb
  obtain ⟨X, hX⟩ : ∃ X : ByteArray, ⟨(mgT f u d).1.toArray⟩ = X := ⟨_, rfl⟩
  obtain ⟨D2, hD2⟩ : ∃ x, (mgT f u d).2 = x := ⟨_, rfl⟩
  have HXX := hide (show X.data.toList = (mgT f u d).1 by rw [← hX])
  have hXl : X.size ≤ 710000 := by
    have h1 : X.size = (mgT f u d).1.length := by rw [← hX]; rfl
    omega
  rw [hX, hD2] at HC
  have HE := hide (show (⟨(76 :: (mgT f u d).1).toArray⟩ : ByteArray) = (⟨#[76]⟩ : ByteArray) ++ X from (str_eq (by rw [app_toL, HXX.out]; simp)).symm)
  simp only [] at hdlb ⊢
  rw [HE.out, hD2]
  rw [hD2] at hdlb
  have hdlb2 : D2.length + 1 ≤ 1000 := by rw [cnt_eq] at hdlb; omega
  have s70 : (⟨#[76]⟩ : ByteArray).size = 1 := rfl
  have nb1 : ¬ 9223372036854775807 < 1 + X.size := by omega
  have hn2p : (0 : Int) < (n2 : Int) := by omega
  cases k with
  | zero => exact hinu.elim
  | succ k =>
  obtain ⟨F1, m1, e1, F2, m2, e2, rfl, _⟩ := hinu
  have HCU := hide hcu
  clear hl hcu h1 h2 h3 h4 h5 t1 t2 hty hX hD2 hmb hdb hnt hp hst hd hin0 HMG hK HXX HE hof hum hcn hu HUG
  go_enter Tryd.func104, Tryd.ntmps104
  go_wp2_with (first | (go_at_call 110; refine CI.out.mono ?_; rintro e w1 ⟨rfl, hw1⟩; have HR1 := hide (HRa.out.below hBa hw1); have HX1 := hide (block_below HX.out hw1); have x0 : w1.cell? ⟨w.heap.size, 0, none⟩ = some (.int .i64 3) := block_cell HX1.out 0; have x1 : w1.cell? ⟨w.heap.size, 1, none⟩ = some (.slice A1 n1 c1) := block_cell HX1.out 1; have x2 : w1.cell? ⟨w.heap.size, 2, none⟩ = some (.slice (some ⟨o, q, none⟩) n2 c2) := block_cell HX1.out 2; have HBB := hide (HR0.out.trans HR1.out).be; have cc0 : w1.cell? ⟨o, q, none⟩ = some (.int .i64 u.kind) := (HBB.out.cell (p := ⟨o, q, none⟩) ho).trans (by simpa using HCU.out 0 _ rfl); have cc1 : w1.cell? ⟨o, q + 1, none⟩ = some (.slice F1 m1 e1) := (HBB.out.cell (p := ⟨o, q + 1, none⟩) ho).trans (by simpa using HCU.out 1 _ rfl); have cc2 : w1.cell? ⟨o, q + 2, none⟩ = some (.slice F2 m2 e2) := (HBB.out.cell (p := ⟨o, q + 2, none⟩) ho).trans (by simpa using HCU.out 2 _ rfl); clear hw1) | (go_at_call 104; refine (HC.out w1 (HR0.out.trans HR1.out).be HR1.out.st (Nat.le_trans hBw (HR0.out.trans HR1.out).be.size)).mono ?_; rintro e w2 ⟨rfl, hr2⟩; have HR2 := hide (HR1.out.trans hr2); clear hr2))
  have hz2 := HR2.out.be.size
  have hBw2 := Nat.le_trans hBa hz2
  have HXT := hide (HR2.out.kept _ _ HX.out (fun e => by omega) HNR.out)
  obtain ⟨v, css, g1, g2, g3⟩ := HR2.out.st.st
  obtain ⟨A3, c3, rfl⟩ := own_sl g2
  have HNB := hide (show (Value.slice A3 D2.length c3).ownBlock ≠ some w.heap.size from fun e => by
    rcases HR2.out.row _ ⟨_, g1, e⟩ with h | h
    · exact HNR.out h
    · omega)
  have HG1 := hide g1
  have HG2 := hide g2
  have HG3 := hide g3
  have HTI := hide (HIN.out.below (HR0.out.trans HR2.out).be)
  have HFB : ∀ q, Below w2.heap.size w2 (w2.alloc (.cells #[.bool q] 4)).drew := fun q => ((Below.refl w2.heap.size w2).alloc (Nat.le_refl _) (.cells #[.bool q] 4)).trans (below_drewN (Below.refl w2.heap.size _) 1)
  have HFB1 := hide (HFB false)
  have HFB2 := hide (HFB true)
  have HT1 := hide (block_below HXT.out HFB1.out)
  have HT2 := hide (block_below HXT.out HFB2.out)
  have HM1 := hide (block_below HG1.out HFB1.out)
  have HM2 := hide (block_below HG1.out HFB2.out)
  have HO1 := hide (own_below HG2.out HFB1.out)
  have HO2 := hide (own_below HG2.out HFB2.out)
  have u0 : (w2.alloc (.cells #[.bool false] 4)).drew.cell? ⟨w.heap.size, 0, none⟩ = some (.int .i64 3) := block_cell HT1.out 0
  have u1 : (w2.alloc (.cells #[.bool false] 4)).drew.cell? ⟨w.heap.size, 1, none⟩ = some (.slice A1 n1 c1) := block_cell HT1.out 1
  have u2 : (w2.alloc (.cells #[.bool false] 4)).drew.cell? ⟨w.heap.size, 2, none⟩ = some (.slice (some ⟨o, q, none⟩) n2 c2) := block_cell HT1.out 2
  have u3 : (w2.alloc (.cells #[.bool false] 4)).drew.cell? ⟨r, 0, none⟩ = some (.slice A3 D2.length c3) := block_cell HM1.out 0
  have v0 : (w2.alloc (.cells #[.bool true] 4)).drew.cell? ⟨w.heap.size, 0, none⟩ = some (.int .i64 3) := block_cell HT2.out 0
  have v1 : (w2.alloc (.cells #[.bool true] 4)).drew.cell? ⟨w.heap.size, 1, none⟩ = some (.slice A1 n1 c1) := block_cell HT2.out 1
  have v2 : (w2.alloc (.cells #[.bool true] 4)).drew.cell? ⟨w.heap.size, 2, none⟩ = some (.slice (some ⟨o, q, none⟩) n2 c2) := block_cell HT2.out 2
  have v3 : (w2.alloc (.cells #[.bool true] 4)).drew.cell? ⟨r, 0, none⟩ = some (.slice A3 D2.length c3) := block_cell HM2.out 0
  clear g1 g2 g3 HFB
  go_region
  · obtain ⟨wf, hwf⟩ : ∃ x, (w2.alloc (.cells #[.bool false] 4)).drew = x := ⟨_, rfl⟩
    rw [hwf] at HFB1 HT1 HM1 HO1 u0 u1 u2 u3 ⊢
    clear hwf v0 v1 v2 v3 HT2 HM2 HO2 HFB2 hwa HX CI HC HRa
    go_wp2_with (fail)
    have HS1 : wf.drew.cell? ⟨r, 0, none⟩ = some (.slice A3 D2.length c3) ∧ wf.drew.cell? ⟨w.heap.size, 0, none⟩ = some (.int .i64 3) ∧ wf.drew.cell? ⟨w.heap.size, 1, none⟩ = some (.slice A1 n1 c1) ∧ wf.drew.cell? ⟨w.heap.size, 2, none⟩ = some (.slice (some ⟨o, q, none⟩) n2 c2) := ⟨u3, u0, u1, u2⟩
    refine wp_region_chain (fun W => W.cell? ⟨r, 0, none⟩ = some (.slice A3 D2.length c3) ∧ W.cell? ⟨w.heap.size, 0, none⟩ = some (.int .i64 3) ∧ W.cell? ⟨w.heap.size, 1, none⟩ = some (.slice A1 n1 c1) ∧ W.cell? ⟨w.heap.size, 2, none⟩ = some (.slice (some ⟨o, q, none⟩) n2 c2)) 7 (by as_aux_lemma => kernel_rfl) (N := 11) (by as_aux_lemma => kernel_rfl) ?_; intro hsh
    refine wpAnyC_take0 (i := 0) (k := 7) (v := ?_) (d := some 64) rfl (by rfl) (by as_aux_lemma => kernel_rfl) (by as_aux_lemma => kernel_rfl) (by as_aux_lemma => kernel_rfl) hsh (by decide) (by intro _ _ _ h; exact h) (by assumption) (Or.inl ⟨by rfl, ?hy⟩) ?_; (case hy => (intro W _; go_simp; (try with_reducible rfl))); clear hsh; intro hsh
    refine wpAnyC_take0 (i := 1) (k := 7) (v := ?_) (d := some 65) rfl (by rfl) (by as_aux_lemma => kernel_rfl) (by as_aux_lemma => kernel_rfl) (by as_aux_lemma => kernel_rfl) hsh (by decide) (by intro _ _ _ h; exact h) (by assumption) (Or.inl ⟨by rfl, ?hy⟩) ?_; (case hy => (intro W _; go_simp; (try with_reducible rfl))); clear hsh; intro hsh
    refine wpAnyC_take0 (i := 2) (k := 7) (v := ?_) (d := some 66) rfl (by rfl) (by as_aux_lemma => kernel_rfl) (by as_aux_lemma => kernel_rfl) (by as_aux_lemma => kernel_rfl) hsh (by decide) (by intro _ _ _ h; exact h) (by assumption) (Or.inl ⟨by rfl, ?hy⟩) ?_; (case hy => (intro W _; go_simp; (try with_reducible rfl))); clear hsh; intro hsh
    refine wpAnyC_take0 (i := 3) (k := 7) (v := ?_) (d := some 67) rfl (by rfl) (by as_aux_lemma => kernel_rfl) (by as_aux_lemma => kernel_rfl) (by as_aux_lemma => kernel_rfl) hsh (by decide) (by intro _ _ _ h; exact h) (by assumption) (Or.inl ⟨by rfl, ?hy⟩) ?_; (case hy => (intro W _; go_simp; (try with_reducible rfl))); clear hsh; intro hsh
    refine wpAnyC_take (i := 4) (k := 7) (f := 40) (v := ?_) (d := some 68) rfl (by rfl) (by as_aux_lemma => kernel_rfl) (by as_aux_lemma => kernel_rfl) (by as_aux_lemma => kernel_rfl) hsh (by decide) (by as_aux_lemma => kernel_rfl) (by intro _ _ _ h; exact h) (by assumption) (Or.inl ⟨by rfl, ?hy⟩) ?_; (case hy => (rintro W ⟨y0, y1, y2, y3⟩; go_simp; (try with_reducible rfl))); clear hsh; intro hsh
    refine wpAnyC_take (i := 5) (k := 7) (f := 40) (v := ?_) (d := some 69) rfl (by rfl) (by as_aux_lemma => kernel_rfl) (by as_aux_lemma => kernel_rfl) (by as_aux_lemma => kernel_rfl) hsh (by decide) (by as_aux_lemma => kernel_rfl) (by intro _ _ _ h; exact h) (by assumption) (Or.inl ⟨by rfl, ?hy⟩) ?_; (case hy => (rintro W ⟨y0, y1, y2, y3⟩; go_simp; (try with_reducible rfl))); clear hsh; intro hsh
    refine wpAnyC_ready (rs := [6]) (by as_aux_lemma => kernel_rfl) (by simp) ?_; refine AllC.cons (i := 6) rfl (by as_aux_lemma => kernel_rfl) hsh (fun K hK => ?_) AllC.nil
    go_simp
    have HBx : Hid (Below wf.heap.size wf (wf.drew.alloc (.cells #[.int .i64 3, .slice A1 n1 c1, .slice (some ⟨o, q, none⟩) n2 c2] 60))) := hide ((below_drewN (Below.refl wf.heap.size wf) 1).alloc (Nat.le_refl _) _)
    have HS2 : (wf.drew.alloc (.cells #[.int .i64 3, .slice A1 n1 c1, .slice (some ⟨o, q, none⟩) n2 c2] 60)).cell? ⟨r, 0, none⟩ = some (.slice A3 D2.length c3) ∧ (wf.drew.alloc (.cells #[.int .i64 3, .slice A1 n1 c1, .slice (some ⟨o, q, none⟩) n2 c2] 60)).cell? ⟨w.heap.size, 0, none⟩ = some (.int .i64 3) ∧ (wf.drew.alloc (.cells #[.int .i64 3, .slice A1 n1 c1, .slice (some ⟨o, q, none⟩) n2 c2] 60)).cell? ⟨w.heap.size, 1, none⟩ = some (.slice A1 n1 c1) ∧ (wf.drew.alloc (.cells #[.int .i64 3, .slice A1 n1 c1, .slice (some ⟨o, q, none⟩) n2 c2] 60)).cell? ⟨w.heap.size, 2, none⟩ = some (.slice (some ⟨o, q, none⟩) n2 c2) :=
      ⟨block_cell (block_below HM1.out HBx.out) 0, block_cell (block_below HT1.out HBx.out) 0, block_cell (block_below HT1.out HBx.out) 1, block_cell (block_below HT1.out HBx.out) 2⟩
    refine hK _ _ (fun _ => HS2) ?_
    clear hK K hsh HS1
    intro hsh
    refine wpAnyC_tail (by as_aux_lemma => kernel_rfl) (by simp) (by as_aux_lemma => kernel_rfl) ?_; simp only [List.drop_succ_cons, List.drop_zero]; clear hsh
    clear HS2
    go_simp
    have HOd := hide (own_below HO1.out (below_drewN (Below.refl wf.heap.size wf) 1))
    have HBd := hide (HFB1.out.trans ((below_drewN (Below.refl wf.heap.size wf) 1).mono HFB1.out.size))
    have hzf := HFB1.out.size
    refine wpList_append_own_at _ (by rfl) (.tmp 68) (.tmp 70) 23 (by rfl) B 60 i0 (.agg #[.int .i64 0, .slice none 0 0, .slice none 0 0]) 3 56 Tryd.underlying23 hi0 iz0 iz1 iz2 rfl (by decide) (.slice A3 D2.length c3) D2.length css.flatten (by rfl) (HOd.out.alloc _) ⟨wf.heap.size, 0, none⟩ 1 1 [.int .i64 3, .slice A1 n1 c1, .slice (some ⟨o, q, none⟩) n2 c2] (by rfl) (by rfl) (cells_new wf.drew [.int .i64 3, .slice A1 n1 c1, .slice (some ⟨o, q, none⟩) n2 c2] _) (by intro u hu; simp at hu; rcases hu with rfl | rfl | rfl <;> rfl) (by unfold maxLen; omega) (by omega) (Nat.le_trans hBw2 (HFB1.out.trans (HBx.out.mono hzf)).size) ?_
    intro v' w3 hown hgr _ hat
    have HP := hide (rg_push hBw2 HBr.out hdlb2 HG1.out HG2.out HG3.out HTI.out (HFB1.out.trans (HBx.out.mono hzf)) hown hgr hat)
    obtain ⟨ao, cp, rfl⟩ := own_sl hown
    have h1x := block_below HG1.out (HFB1.out.trans (HBx.out.mono hzf))
    have h13 : w3.heap[r]? = some (.cells #[.slice A3 D2.length c3] 124 (0, 0)) := (hgr.block r (lt_of_block h1x) (fun e => own_other' HG2.out HG1.out (by decide) e.symm)).trans h1x
    have b3 : w3.frozen? ⟨r, 0, none⟩ = false := block_free h13 0
    have b4 : w3.cell? ⟨r, 0, none⟩ = some (.slice A3 D2.length c3) := block_cell h13 0
    clear h1x h13
    clear hown hgr hat
    go_wp2_with (fail)
    go_ret
    exact ⟨rfl, HR0.out.trans (HR2.out.trans HP.out)⟩
  · obtain ⟨wf, hwf⟩ : ∃ x, (w2.alloc (.cells #[.bool true] 4)).drew = x := ⟨_, rfl⟩
    rw [hwf] at HFB2 HT2 HM2 HO2 v0 v1 v2 v3 ⊢
    clear hwf u0 u1 u2 u3 HT1 HM1 HO1 HFB1 hwa HX CI HC HRa
    have hzf := HFB2.out.size
    have HBx : Hid (Below wf.heap.size wf (wf.alloc (.cells #[.int .i64 0, .slice none 0 0, .slice none 0 0] 60))) := hide ((Below.refl wf.heap.size wf).alloc (Nat.le_refl _) _)
    have hrt : w.heap.size ≠ r := by omega
    have hlt : (D2.length : Int) < (D2.length : Int) + 1 := by omega
    have hfl : css.flatten.length = D2.length * 3 := by rw [flat3_len css HG3.out.all3, HG3.out.len]
    have HFL := hide (fun x y z : Value => show (css.flatten ++ [x, y, z])[D2.length * 3]? = some x by rw [List.getElem?_append_right (by omega), hfl]; simp)
    have HFL1 := hide (fun x y z : Value => show (css.flatten ++ [x, y, z])[D2.length * 3 + 1]? = some y by rw [List.getElem?_append_right (by omega), hfl]; simp)
    have HFL2 := hide (fun x y z : Value => show (css.flatten ++ [x, y, z])[D2.length * 3 + 2]? = some z by rw [List.getElem?_append_right (by omega), hfl]; simp)
    clear hfl
    go_wp2_with (at_builtin; refine wpList_append_own_at _ (by rfl) (.tmp 56) (.tmp 58) 23 (by rfl) B 60 i0 (.agg #[.int .i64 0, .slice none 0 0, .slice none 0 0]) 3 56 Tryd.underlying23 hi0 iz0 iz1 iz2 rfl (by decide) (.slice A3 D2.length c3) D2.length css.flatten (by rfl) (HO2.out.alloc _) ⟨wf.heap.size, 0, none⟩ 1 1 [.int .i64 0, .slice none 0 0, .slice none 0 0] (by rfl) (by rfl) (cells_new wf [.int .i64 0, .slice none 0 0, .slice none 0 0] _) (by intro u hu; simp at hu; rcases hu with rfl | rfl | rfl <;> rfl) (by unfold maxLen; omega) (by omega) (Nat.le_trans hBw2 (HFB2.out.trans (HBx.out.mono hzf)).size) ?_; intro v' w3 hown hgr _ hat; obtain ⟨g, cp, cur, rfl, hbg, hgb, hncp, hcpm, _⟩ := own_blk hown (Nat.succ_pos _); have HP := hide (rg_push (t := tyZero) hBw2 HBr.out hdlb2 HG1.out HG2.out HG3.out (tyZero_in w2 B _) (HFB2.out.trans (HBx.out.mono hzf)) hown hgr hat); have h1x := hide (block_below HG1.out (HFB2.out.trans (HBx.out.mono hzf))); have h13 : Hid (w3.heap[r]? = some (.cells #[.slice A3 D2.length c3] 124 (0, 0))) := hide ((hgr.block r (lt_of_block h1x.out) (fun e => own_other' HG2.out HG1.out (by decide) e.symm)).trans h1x.out); have b3 : w3.frozen? ⟨r, 0, none⟩ = false := block_free h13.out 0; have b4 : w3.cell? ⟨r, 0, none⟩ = some (.slice A3 D2.length c3) := block_cell h13.out 0; have HGT := hide ((hgr.block _ (lt_of_block (block_below HT2.out HBx.out)) (fun e => HNB.out e.symm)).trans (block_below HT2.out HBx.out)); have HOW := hide (ownsRow_setCell_other hown (a := ⟨r, 0, none⟩) (own_other' hown h13.out (by decide)) (.slice (some ⟨g, 0, none⟩) (D2.length + 1) cp)); have HB5 := hide (block_set h13.out (i := 0) (.slice (some ⟨g, 0, none⟩) (D2.length + 1) cp)); have HT5 := hide (block_set_other HGT.out ⟨r, 0, none⟩ (.slice (some ⟨g, 0, none⟩) (D2.length + 1) cp) hrt); have v0 : (w3.setCell ⟨r, 0, none⟩ (.slice (some ⟨g, 0, none⟩) (D2.length + 1) cp)).cell? ⟨w.heap.size, 0, none⟩ = some (.int .i64 3) := block_cell HT5.out 0; have v1 : (w3.setCell ⟨r, 0, none⟩ (.slice (some ⟨g, 0, none⟩) (D2.length + 1) cp)).cell? ⟨w.heap.size, 1, none⟩ = some (.slice A1 n1 c1) := block_cell HT5.out 1; have v2 : (w3.setCell ⟨r, 0, none⟩ (.slice (some ⟨g, 0, none⟩) (D2.length + 1) cp)).cell? ⟨w.heap.size, 2, none⟩ = some (.slice (some ⟨o, q, none⟩) n2 c2) := block_cell HT5.out 2; have q0 : (w3.setCell ⟨r, 0, none⟩ (.slice (some ⟨g, 0, none⟩) (D2.length + 1) cp)).cell? ⟨g, D2.length * 3, none⟩ = some (.int .i64 0) := own_cell HOW.out _ _ (HFL.out _ _ _); have q1 : (w3.setCell ⟨r, 0, none⟩ (.slice (some ⟨g, 0, none⟩) (D2.length + 1) cp)).cell? ⟨g, D2.length * 3 + 1, none⟩ = some (.slice none 0 0) := own_cell HOW.out _ _ (HFL1.out _ _ _); have q2 : (w3.setCell ⟨r, 0, none⟩ (.slice (some ⟨g, 0, none⟩) (D2.length + 1) cp)).cell? ⟨g, D2.length * 3 + 2, none⟩ = some (.slice none 0 0) := own_cell HOW.out _ _ (HFL2.out _ _ _); have z0 : (w3.setCell ⟨r, 0, none⟩ (.slice (some ⟨g, 0, none⟩) (D2.length + 1) cp)).frozen? ⟨g, D2.length * 3, none⟩ = false := own_free HOW.out _; have z1 : (w3.setCell ⟨r, 0, none⟩ (.slice (some ⟨g, 0, none⟩) (D2.length + 1) cp)).frozen? ⟨g, D2.length * 3 + 1, none⟩ = false := own_free HOW.out _; have z2 : (w3.setCell ⟨r, 0, none⟩ (.slice (some ⟨g, 0, none⟩) (D2.length + 1) cp)).frozen? ⟨g, D2.length * 3 + 2, none⟩ = false := own_free HOW.out _; have HQ := hide (rg_set (t := t) (Nat.le_trans hBw2 HP.out.be.size) HBr.out rfl hdlb2 HB5.out HOW.out (HG3.out.below HP.out.be) (HTI.out.below HP.out.be)); clear hown hgr hat)
    go_ret
    exact ⟨rfl, HR0.out.trans (HR2.out.trans (HP.out.trans HQ.out))⟩
set_option maxRecDepth 100000 in
set_option maxHeartbeats 8000000 in
theorem rOne_k4 {f : Nat} (HT : rListOk f) (k : Nat) (t : Ty) (cs : List Value) (B r : Nat) (d : List Ty) (w : World) (hin : TyIn w B k t cs) (hgt : Good (f + 1) t ∧ Txt (f + 1) t) (hf12 : f + 1 ≤ 12) (hd : DOk d) (hdc : d.length + cnt (f + 1) t ≤ 999) (hc5 : cnt (f + 1) t ≤ 500) (hp : plc d t = none) (hst : RgS B r k d w) (hBw : B ≤ w.heap.size) (hK : t.kind = 4) :
    Calls Tryd.prog 104 #[.pointer (some ⟨r, 0, none⟩), .agg cs.toArray] w fun e w' => e = .returned (.string ⟨(mgT (f + 1) t d).1.toArray⟩) ∧ RgR B r k (mgT (f + 1) t d).2 w w' := by
  have hin0 := hin
  obtain ⟨hg, htx⟩ := hgt
  obtain ⟨hnt, hdb, hdlb⟩ := body_new hf12 ⟨hg, htx⟩ hd hp
  have HA := hide ((Below.refl w.heap.size w).alloc (Nat.le_refl _) (.cells cs.toArray 60))
  have HX := hide (heap_alloc_new w (.cells cs.toArray 60))
  have HR0 := hide ((RgR.refl hst).below hBw HA.out)
  have hrl := hst.lt
  obtain ⟨i0, hi0, iz0, iz1, iz2⟩ := info_parts info_tyR
  have HBr := hide hst.hB
  have HNR := hide (show ¬ RowB r (w.alloc (.cells cs.toArray 60)) w.heap.size from fun ⟨v, e1, e2⟩ => by
    rw [HA.out.block r hrl] at e1
    exact absurd (rowB_lt hst ⟨v, e1, e2⟩) (Nat.lt_irrefl _))
  obtain ⟨wa, hwa⟩ : ∃ x, w.alloc (.cells cs.toArray 60) = x := ⟨_, rfl⟩
  have hBa : B ≤ wa.heap.size := by rw [← hwa]; exact Nat.le_trans hBw HA.out.size
  rw [hwa] at HA HX HR0 HNR
  obtain ⟨A, c, hc0, hty⟩ := HR0.out.st.tys hBa
  have hdl := hst.len
  have CI := hide (IdxT_any k t cs w.heap.size A d.length c d wa (by unfold maxLen; omega) hty ((hin.below (HA.out.mono hBw)).more hBa) HX.out)
  rw [show plcI d t = -1 by unfold plcI; rw [hp]] at CI
  rw [cnt_eq] at hdc hc5
  have htbl : w.heap.size < wa.heap.size := lt_of_block HX.out
  have HMG := hide (show (mgT (f + 1) t d).1 = (mgBody (mgT f) t d).1 ∧ (mgT (f + 1) t d).2 = (mgBody (mgT f) t d).2 ++ [t] from ⟨by rw [mgT, hp], by rw [mgT, hp]⟩)
  rw [HMG.out.1, HMG.out.2]
  have HIN := hide hin0
  cases k with
  | zero => exact hin.elim
  | succ k =>
  obtain ⟨A1, n1, c1, A2, n2, c2, rfl, hn, hm, hn2, hm2, hl, hl2⟩ := hin
  obtain ⟨⟨hk1, hk4⟩, h1, h2, h3, h4, h5⟩ := hg
  obtain ⟨t1, t2⟩ := htx
  have HKK := hide hK
  rw [hK] at h1 h2 h3 HX hwa HIN ⊢
  have HRa := hide (RgR.refl HR0.out.st)
  have HD := hide hd
  obtain ⟨hn0, hp1, hp2⟩ := h2 (by decide)
  have hnl := hl2.len
  have HL2 := hide hl2
  have HTG := hide (fun x (hx : x ∈ t.of) => (⟨h5 x hx, t2 x hx⟩ : Good f x ∧ Txt f x))
  have hmb : mgBody (mgT f) t d = (70 :: ((mgFold (mgT f) t.of d).1 ++ [69]), (mgFold (mgT f) t.of d).2) := by unfold mgBody; rw [if_neg (by rw [HKK.out]; decide), if_pos HKK.out]
  have hlen := mgTys_len (f := f) (by omega) (fun t d ht hd hn => mgT_len f t d (by omega) ht hd hn) (l := t.of) (d := d) HTG.out HD.out (by omega)
  have HC := hide (fun w1 (hb : Below B w w1) h => HT (k + 1) A2 n2 c2 t.of B r d w1 hn2 hm2 (by omega) (tys_deep (tys_below HL2.out hb) (Nat.le_succ _)) HTG.out (by omega) HD.out (by omega) (by omega) h)
  rw [hmb]
  rw [hmb] at hdlb
  obtain ⟨X, hX⟩ : ∃ X : ByteArray, ⟨(mgFold (mgT f) t.of d).1.toArray⟩ = X := ⟨_, rfl⟩
  obtain ⟨D2, hD2⟩ : ∃ x, (mgFold (mgT f) t.of d).2 = x := ⟨_, rfl⟩
  have HXX := hide (show X.data.toList = (mgFold (mgT f) t.of d).1 by rw [← hX])
  have hXl : X.size ≤ 710000 := by
    have h1 : X.size = (mgFold (mgT f) t.of d).1.length := by rw [← hX]; rfl
    omega
  rw [hX, hD2] at HC
  have HE := hide (show (⟨(70 :: ((mgFold (mgT f) t.of d).1 ++ [69])).toArray⟩ : ByteArray) = (⟨#[70]⟩ : ByteArray) ++ X ++ (⟨#[69]⟩ : ByteArray) from (str_eq (by rw [app_toL, app_toL, HXX.out]; simp)).symm)
  simp only [] at hdlb ⊢
  rw [HE.out, hD2]
  rw [hD2] at hdlb
  have hdlb2 : D2.length + 1 ≤ 1000 := by rw [cnt_eq] at hdlb; omega
  have s70 : (⟨#[70]⟩ : ByteArray).size = 1 := rfl
  have s69 : (⟨#[69]⟩ : ByteArray).size = 1 := rfl
  have nb1 : ¬ 9223372036854775807 < 1 + X.size := by omega
  have hq1 : ((⟨#[70]⟩ : ByteArray) ++ X).size = 1 + X.size := by rw [ByteArray.size_append, s70]
  have nb2 : ¬ 9223372036854775807 < 1 + X.size + 1 := by omega
  clear hl hl2 h1 h2 h3 h4 h5 t1 t2 hty hX hD2 hmb hdb hnt hp hst hd hin0 HMG HL2 hK HXX HE
  go_enter Tryd.func104, Tryd.ntmps104
  go_wp2_with (first | (go_at_call 110; refine CI.out.mono ?_; rintro e w1 ⟨rfl, hw1⟩; have HR1 := hide (HRa.out.below hBa hw1); have HX1 := hide (block_below HX.out hw1); have x0 : w1.cell? ⟨w.heap.size, 0, none⟩ = some (.int .i64 4) := block_cell HX1.out 0; have x1 : w1.cell? ⟨w.heap.size, 1, none⟩ = some (.slice A1 n1 c1) := block_cell HX1.out 1; have x2 : w1.cell? ⟨w.heap.size, 2, none⟩ = some (.slice A2 n2 c2) := block_cell HX1.out 2; clear hw1) | (go_at_call 80; refine (HC.out w1 (HR0.out.trans HR1.out).be HR1.out.st (Nat.le_trans hBw (HR0.out.trans HR1.out).be.size)).mono ?_; rintro e w2 ⟨rfl, hr2⟩; have HR2 := hide (HR1.out.trans hr2); clear hr2))
  have hz2 := HR2.out.be.size
  have hBw2 := Nat.le_trans hBa hz2
  have HXT := hide (HR2.out.kept _ _ HX.out (fun e => by omega) HNR.out)
  obtain ⟨v, css, g1, g2, g3⟩ := HR2.out.st.st
  obtain ⟨A3, c3, rfl⟩ := own_sl g2
  have HNB := hide (show (Value.slice A3 D2.length c3).ownBlock ≠ some w.heap.size from fun e => by
    rcases HR2.out.row _ ⟨_, g1, e⟩ with h | h
    · exact HNR.out h
    · omega)
  have HG1 := hide g1
  have HG2 := hide g2
  have HG3 := hide g3
  have HTI := hide (HIN.out.below (HR0.out.trans HR2.out).be)
  have HFB : ∀ q, Below w2.heap.size w2 (w2.alloc (.cells #[.bool q] 4)).drew := fun q => ((Below.refl w2.heap.size w2).alloc (Nat.le_refl _) (.cells #[.bool q] 4)).trans (below_drewN (Below.refl w2.heap.size _) 1)
  have HFB1 := hide (HFB false)
  have HFB2 := hide (HFB true)
  have HT1 := hide (block_below HXT.out HFB1.out)
  have HT2 := hide (block_below HXT.out HFB2.out)
  have HM1 := hide (block_below HG1.out HFB1.out)
  have HM2 := hide (block_below HG1.out HFB2.out)
  have HO1 := hide (own_below HG2.out HFB1.out)
  have HO2 := hide (own_below HG2.out HFB2.out)
  have u0 : (w2.alloc (.cells #[.bool false] 4)).drew.cell? ⟨w.heap.size, 0, none⟩ = some (.int .i64 4) := block_cell HT1.out 0
  have u1 : (w2.alloc (.cells #[.bool false] 4)).drew.cell? ⟨w.heap.size, 1, none⟩ = some (.slice A1 n1 c1) := block_cell HT1.out 1
  have u2 : (w2.alloc (.cells #[.bool false] 4)).drew.cell? ⟨w.heap.size, 2, none⟩ = some (.slice A2 n2 c2) := block_cell HT1.out 2
  have u3 : (w2.alloc (.cells #[.bool false] 4)).drew.cell? ⟨r, 0, none⟩ = some (.slice A3 D2.length c3) := block_cell HM1.out 0
  have v0 : (w2.alloc (.cells #[.bool true] 4)).drew.cell? ⟨w.heap.size, 0, none⟩ = some (.int .i64 4) := block_cell HT2.out 0
  have v1 : (w2.alloc (.cells #[.bool true] 4)).drew.cell? ⟨w.heap.size, 1, none⟩ = some (.slice A1 n1 c1) := block_cell HT2.out 1
  have v2 : (w2.alloc (.cells #[.bool true] 4)).drew.cell? ⟨w.heap.size, 2, none⟩ = some (.slice A2 n2 c2) := block_cell HT2.out 2
  have v3 : (w2.alloc (.cells #[.bool true] 4)).drew.cell? ⟨r, 0, none⟩ = some (.slice A3 D2.length c3) := block_cell HM2.out 0
  clear g1 g2 g3 HFB
  go_region
  · obtain ⟨wf, hwf⟩ : ∃ x, (w2.alloc (.cells #[.bool false] 4)).drew = x := ⟨_, rfl⟩
    rw [hwf] at HFB1 HT1 HM1 HO1 u0 u1 u2 u3 ⊢
    clear hwf v0 v1 v2 v3 HT2 HM2 HO2 HFB2 hwa HX CI HC HRa
    go_wp2_with (fail)
    have HS1 : wf.drew.cell? ⟨r, 0, none⟩ = some (.slice A3 D2.length c3) ∧ wf.drew.cell? ⟨w.heap.size, 0, none⟩ = some (.int .i64 4) ∧ wf.drew.cell? ⟨w.heap.size, 1, none⟩ = some (.slice A1 n1 c1) ∧ wf.drew.cell? ⟨w.heap.size, 2, none⟩ = some (.slice A2 n2 c2) := ⟨u3, u0, u1, u2⟩
    refine wp_region_chain (fun W => W.cell? ⟨r, 0, none⟩ = some (.slice A3 D2.length c3) ∧ W.cell? ⟨w.heap.size, 0, none⟩ = some (.int .i64 4) ∧ W.cell? ⟨w.heap.size, 1, none⟩ = some (.slice A1 n1 c1) ∧ W.cell? ⟨w.heap.size, 2, none⟩ = some (.slice A2 n2 c2)) 7 (by as_aux_lemma => kernel_rfl) (N := 11) (by as_aux_lemma => kernel_rfl) ?_; intro hsh
    refine wpAnyC_take0 (i := 0) (k := 7) (v := ?_) (d := some 64) rfl (by rfl) (by as_aux_lemma => kernel_rfl) (by as_aux_lemma => kernel_rfl) (by as_aux_lemma => kernel_rfl) hsh (by decide) (by intro _ _ _ h; exact h) (by assumption) (Or.inl ⟨by rfl, ?hy⟩) ?_; (case hy => (intro W _; go_simp; (try with_reducible rfl))); clear hsh; intro hsh
    refine wpAnyC_take0 (i := 1) (k := 7) (v := ?_) (d := some 65) rfl (by rfl) (by as_aux_lemma => kernel_rfl) (by as_aux_lemma => kernel_rfl) (by as_aux_lemma => kernel_rfl) hsh (by decide) (by intro _ _ _ h; exact h) (by assumption) (Or.inl ⟨by rfl, ?hy⟩) ?_; (case hy => (intro W _; go_simp; (try with_reducible rfl))); clear hsh; intro hsh
    refine wpAnyC_take0 (i := 2) (k := 7) (v := ?_) (d := some 66) rfl (by rfl) (by as_aux_lemma => kernel_rfl) (by as_aux_lemma => kernel_rfl) (by as_aux_lemma => kernel_rfl) hsh (by decide) (by intro _ _ _ h; exact h) (by assumption) (Or.inl ⟨by rfl, ?hy⟩) ?_; (case hy => (intro W _; go_simp; (try with_reducible rfl))); clear hsh; intro hsh
    refine wpAnyC_take0 (i := 3) (k := 7) (v := ?_) (d := some 67) rfl (by rfl) (by as_aux_lemma => kernel_rfl) (by as_aux_lemma => kernel_rfl) (by as_aux_lemma => kernel_rfl) hsh (by decide) (by intro _ _ _ h; exact h) (by assumption) (Or.inl ⟨by rfl, ?hy⟩) ?_; (case hy => (intro W _; go_simp; (try with_reducible rfl))); clear hsh; intro hsh
    refine wpAnyC_take (i := 4) (k := 7) (f := 40) (v := ?_) (d := some 68) rfl (by rfl) (by as_aux_lemma => kernel_rfl) (by as_aux_lemma => kernel_rfl) (by as_aux_lemma => kernel_rfl) hsh (by decide) (by as_aux_lemma => kernel_rfl) (by intro _ _ _ h; exact h) (by assumption) (Or.inl ⟨by rfl, ?hy⟩) ?_; (case hy => (rintro W ⟨y0, y1, y2, y3⟩; go_simp; (try with_reducible rfl))); clear hsh; intro hsh
    refine wpAnyC_take (i := 5) (k := 7) (f := 40) (v := ?_) (d := some 69) rfl (by rfl) (by as_aux_lemma => kernel_rfl) (by as_aux_lemma => kernel_rfl) (by as_aux_lemma => kernel_rfl) hsh (by decide) (by as_aux_lemma => kernel_rfl) (by intro _ _ _ h; exact h) (by assumption) (Or.inl ⟨by rfl, ?hy⟩) ?_; (case hy => (rintro W ⟨y0, y1, y2, y3⟩; go_simp; (try with_reducible rfl))); clear hsh; intro hsh
    refine wpAnyC_ready (rs := [6]) (by as_aux_lemma => kernel_rfl) (by simp) ?_; refine AllC.cons (i := 6) rfl (by as_aux_lemma => kernel_rfl) hsh (fun K hK => ?_) AllC.nil
    go_simp
    have HBx : Hid (Below wf.heap.size wf (wf.drew.alloc (.cells #[.int .i64 4, .slice A1 n1 c1, .slice A2 n2 c2] 60))) := hide ((below_drewN (Below.refl wf.heap.size wf) 1).alloc (Nat.le_refl _) _)
    have HS2 : (wf.drew.alloc (.cells #[.int .i64 4, .slice A1 n1 c1, .slice A2 n2 c2] 60)).cell? ⟨r, 0, none⟩ = some (.slice A3 D2.length c3) ∧ (wf.drew.alloc (.cells #[.int .i64 4, .slice A1 n1 c1, .slice A2 n2 c2] 60)).cell? ⟨w.heap.size, 0, none⟩ = some (.int .i64 4) ∧ (wf.drew.alloc (.cells #[.int .i64 4, .slice A1 n1 c1, .slice A2 n2 c2] 60)).cell? ⟨w.heap.size, 1, none⟩ = some (.slice A1 n1 c1) ∧ (wf.drew.alloc (.cells #[.int .i64 4, .slice A1 n1 c1, .slice A2 n2 c2] 60)).cell? ⟨w.heap.size, 2, none⟩ = some (.slice A2 n2 c2) :=
      ⟨block_cell (block_below HM1.out HBx.out) 0, block_cell (block_below HT1.out HBx.out) 0, block_cell (block_below HT1.out HBx.out) 1, block_cell (block_below HT1.out HBx.out) 2⟩
    refine hK _ _ (fun _ => HS2) ?_
    clear hK K hsh HS1
    intro hsh
    refine wpAnyC_tail (by as_aux_lemma => kernel_rfl) (by simp) (by as_aux_lemma => kernel_rfl) ?_; simp only [List.drop_succ_cons, List.drop_zero]; clear hsh
    clear HS2
    go_simp
    have HOd := hide (own_below HO1.out (below_drewN (Below.refl wf.heap.size wf) 1))
    have HBd := hide (HFB1.out.trans ((below_drewN (Below.refl wf.heap.size wf) 1).mono HFB1.out.size))
    have hzf := HFB1.out.size
    refine wpList_append_own_at _ (by rfl) (.tmp 68) (.tmp 70) 23 (by rfl) B 60 i0 (.agg #[.int .i64 0, .slice none 0 0, .slice none 0 0]) 3 56 Tryd.underlying23 hi0 iz0 iz1 iz2 rfl (by decide) (.slice A3 D2.length c3) D2.length css.flatten (by rfl) (HOd.out.alloc _) ⟨wf.heap.size, 0, none⟩ 1 1 [.int .i64 4, .slice A1 n1 c1, .slice A2 n2 c2] (by rfl) (by rfl) (cells_new wf.drew [.int .i64 4, .slice A1 n1 c1, .slice A2 n2 c2] _) (by intro u hu; simp at hu; rcases hu with rfl | rfl | rfl <;> rfl) (by unfold maxLen; omega) (by omega) (Nat.le_trans hBw2 (HFB1.out.trans (HBx.out.mono hzf)).size) ?_
    intro v' w3 hown hgr _ hat
    have HP := hide (rg_push hBw2 HBr.out hdlb2 HG1.out HG2.out HG3.out HTI.out (HFB1.out.trans (HBx.out.mono hzf)) hown hgr hat)
    obtain ⟨ao, cp, rfl⟩ := own_sl hown
    have h1x := block_below HG1.out (HFB1.out.trans (HBx.out.mono hzf))
    have h13 : w3.heap[r]? = some (.cells #[.slice A3 D2.length c3] 124 (0, 0)) := (hgr.block r (lt_of_block h1x) (fun e => own_other' HG2.out HG1.out (by decide) e.symm)).trans h1x
    have b3 : w3.frozen? ⟨r, 0, none⟩ = false := block_free h13 0
    have b4 : w3.cell? ⟨r, 0, none⟩ = some (.slice A3 D2.length c3) := block_cell h13 0
    clear h1x h13
    clear hown hgr hat
    go_wp2_with (fail)
    go_ret
    exact ⟨rfl, HR0.out.trans (HR2.out.trans HP.out)⟩
  · obtain ⟨wf, hwf⟩ : ∃ x, (w2.alloc (.cells #[.bool true] 4)).drew = x := ⟨_, rfl⟩
    rw [hwf] at HFB2 HT2 HM2 HO2 v0 v1 v2 v3 ⊢
    clear hwf u0 u1 u2 u3 HT1 HM1 HO1 HFB1 hwa HX CI HC HRa
    have hzf := HFB2.out.size
    have HBx : Hid (Below wf.heap.size wf (wf.alloc (.cells #[.int .i64 0, .slice none 0 0, .slice none 0 0] 60))) := hide ((Below.refl wf.heap.size wf).alloc (Nat.le_refl _) _)
    have hrt : w.heap.size ≠ r := by omega
    have hlt : (D2.length : Int) < (D2.length : Int) + 1 := by omega
    have hfl : css.flatten.length = D2.length * 3 := by rw [flat3_len css HG3.out.all3, HG3.out.len]
    have HFL := hide (fun x y z : Value => show (css.flatten ++ [x, y, z])[D2.length * 3]? = some x by rw [List.getElem?_append_right (by omega), hfl]; simp)
    have HFL1 := hide (fun x y z : Value => show (css.flatten ++ [x, y, z])[D2.length * 3 + 1]? = some y by rw [List.getElem?_append_right (by omega), hfl]; simp)
    have HFL2 := hide (fun x y z : Value => show (css.flatten ++ [x, y, z])[D2.length * 3 + 2]? = some z by rw [List.getElem?_append_right (by omega), hfl]; simp)
    clear hfl
    go_wp2_with (at_builtin; refine wpList_append_own_at _ (by rfl) (.tmp 56) (.tmp 58) 23 (by rfl) B 60 i0 (.agg #[.int .i64 0, .slice none 0 0, .slice none 0 0]) 3 56 Tryd.underlying23 hi0 iz0 iz1 iz2 rfl (by decide) (.slice A3 D2.length c3) D2.length css.flatten (by rfl) (HO2.out.alloc _) ⟨wf.heap.size, 0, none⟩ 1 1 [.int .i64 0, .slice none 0 0, .slice none 0 0] (by rfl) (by rfl) (cells_new wf [.int .i64 0, .slice none 0 0, .slice none 0 0] _) (by intro u hu; simp at hu; rcases hu with rfl | rfl | rfl <;> rfl) (by unfold maxLen; omega) (by omega) (Nat.le_trans hBw2 (HFB2.out.trans (HBx.out.mono hzf)).size) ?_; intro v' w3 hown hgr _ hat; obtain ⟨g, cp, cur, rfl, hbg, hgb, hncp, hcpm, _⟩ := own_blk hown (Nat.succ_pos _); have HP := hide (rg_push (t := tyZero) hBw2 HBr.out hdlb2 HG1.out HG2.out HG3.out (tyZero_in w2 B _) (HFB2.out.trans (HBx.out.mono hzf)) hown hgr hat); have h1x := hide (block_below HG1.out (HFB2.out.trans (HBx.out.mono hzf))); have h13 : Hid (w3.heap[r]? = some (.cells #[.slice A3 D2.length c3] 124 (0, 0))) := hide ((hgr.block r (lt_of_block h1x.out) (fun e => own_other' HG2.out HG1.out (by decide) e.symm)).trans h1x.out); have b3 : w3.frozen? ⟨r, 0, none⟩ = false := block_free h13.out 0; have b4 : w3.cell? ⟨r, 0, none⟩ = some (.slice A3 D2.length c3) := block_cell h13.out 0; have HGT := hide ((hgr.block _ (lt_of_block (block_below HT2.out HBx.out)) (fun e => HNB.out e.symm)).trans (block_below HT2.out HBx.out)); have HOW := hide (ownsRow_setCell_other hown (a := ⟨r, 0, none⟩) (own_other' hown h13.out (by decide)) (.slice (some ⟨g, 0, none⟩) (D2.length + 1) cp)); have HB5 := hide (block_set h13.out (i := 0) (.slice (some ⟨g, 0, none⟩) (D2.length + 1) cp)); have HT5 := hide (block_set_other HGT.out ⟨r, 0, none⟩ (.slice (some ⟨g, 0, none⟩) (D2.length + 1) cp) hrt); have v0 : (w3.setCell ⟨r, 0, none⟩ (.slice (some ⟨g, 0, none⟩) (D2.length + 1) cp)).cell? ⟨w.heap.size, 0, none⟩ = some (.int .i64 4) := block_cell HT5.out 0; have v1 : (w3.setCell ⟨r, 0, none⟩ (.slice (some ⟨g, 0, none⟩) (D2.length + 1) cp)).cell? ⟨w.heap.size, 1, none⟩ = some (.slice A1 n1 c1) := block_cell HT5.out 1; have v2 : (w3.setCell ⟨r, 0, none⟩ (.slice (some ⟨g, 0, none⟩) (D2.length + 1) cp)).cell? ⟨w.heap.size, 2, none⟩ = some (.slice A2 n2 c2) := block_cell HT5.out 2; have q0 : (w3.setCell ⟨r, 0, none⟩ (.slice (some ⟨g, 0, none⟩) (D2.length + 1) cp)).cell? ⟨g, D2.length * 3, none⟩ = some (.int .i64 0) := own_cell HOW.out _ _ (HFL.out _ _ _); have q1 : (w3.setCell ⟨r, 0, none⟩ (.slice (some ⟨g, 0, none⟩) (D2.length + 1) cp)).cell? ⟨g, D2.length * 3 + 1, none⟩ = some (.slice none 0 0) := own_cell HOW.out _ _ (HFL1.out _ _ _); have q2 : (w3.setCell ⟨r, 0, none⟩ (.slice (some ⟨g, 0, none⟩) (D2.length + 1) cp)).cell? ⟨g, D2.length * 3 + 2, none⟩ = some (.slice none 0 0) := own_cell HOW.out _ _ (HFL2.out _ _ _); have z0 : (w3.setCell ⟨r, 0, none⟩ (.slice (some ⟨g, 0, none⟩) (D2.length + 1) cp)).frozen? ⟨g, D2.length * 3, none⟩ = false := own_free HOW.out _; have z1 : (w3.setCell ⟨r, 0, none⟩ (.slice (some ⟨g, 0, none⟩) (D2.length + 1) cp)).frozen? ⟨g, D2.length * 3 + 1, none⟩ = false := own_free HOW.out _; have z2 : (w3.setCell ⟨r, 0, none⟩ (.slice (some ⟨g, 0, none⟩) (D2.length + 1) cp)).frozen? ⟨g, D2.length * 3 + 2, none⟩ = false := own_free HOW.out _; have HQ := hide (rg_set (t := t) (Nat.le_trans hBw2 HP.out.be.size) HBr.out rfl hdlb2 HB5.out HOW.out (HG3.out.below HP.out.be) (HTI.out.below HP.out.be)); clear hown hgr hat)
    go_ret
    exact ⟨rfl, HR0.out.trans (HR2.out.trans (HP.out.trans HQ.out))⟩
theorem rOne_succ {f : Nat} (HO : rOneOkM f) (HN : rNameOk f) (HT : rListOk f) : rOneOkM (f + 1) := by
  intro k t cs B r d w hin hg hf12 hd hdc hc5 hst hBw
  cases hp : plc d t with
  | some kx => exact rOne_found k t cs B r d w kx hin hp hst hBw
  | none =>
    have h := hg.1.1
    by_cases h1 : t.kind = 1
    · exact rOne_k1 HN k t cs B r d w hin hg hf12 hd hdc hc5 hp hst hBw h1
    · by_cases h2 : t.kind = 2
      · exact rOne_k2 HO k t cs B r d w hin hg hf12 hd hdc hc5 hp hst hBw h2
      · by_cases h3 : t.kind = 3
        · exact rOne_k3 HO k t cs B r d w hin hg hf12 hd hdc hc5 hp hst hBw h3
        · exact rOne_k4 HT k t cs B r d w hin hg hf12 hd hdc hc5 hp hst hBw (by have := h.1; have := h.2; omega)
theorem rOneAll : ∀ f, rOneOkM f
  | 0 => rOne_zeroM
  | f + 1 => rOne_succ (rOneAll f) (rName_of (rList_of (rOneAll f))) (rList_of (rOneAll f))
end Go.Proofs.YtecancnojdifaaaDoor

/- Walk of the reference's Mangled. -/
namespace Go.Proofs.YtecancnojdifaaaDoor
open Go.RowKit
set_option linter.unusedVariables false
set_option linter.unusedSimpArgs false
set_option maxRecDepth 100000 in
set_option maxHeartbeats 8000000 in
theorem Mangled_any (k : Nat) (s : Sym) (cs : List Value) (w : World) (hin : SymIn w k s cs) (h0 : (symE s).1 = 0) (h5 : (symE s).2 ≤ 500) :
    Calls Tryd.prog 41 #[.agg cs.toArray] w fun e w' => e = .returned (.string ⟨(mgSym s).toArray⟩) ∧ Below w.heap.size w w' := by
  obtain ⟨A, n, c, A2, n2, c2, rfl, hn, hm, hn2, hm2, hl, hl2⟩ := hin
  obtain ⟨g1, g2, g3, g4, g5, g6⟩ := sym_good h0
  obtain ⟨t1, t2⟩ := sym_txt h0
  have HA := hide ((Below.refl w.heap.size w).alloc (Nat.le_refl _) (.cells #[.slice A n c, .slice A2 n2 c2] 25))
  have HX := hide (heap_alloc_new w (.cells #[.slice A n c, .slice A2 n2 c2] 25))
  have hnl := hl.len
  have hnl2 := hl2.len
  have hPG : ∀ p ∈ s.name, textE p.1 = 0 ∧ p.1.size ≤ 60 ∧ p.2.length ≤ 20 ∧ ∀ x ∈ p.2, Good 12 x ∧ Txt 12 x := fun p hp => ⟨(t1 p hp).1, (g1 p hp).1, (g1 p hp).2.1, fun x hx => ⟨(g1 p hp).2.2 x hx, (t1 p hp).2 x hx⟩⟩
  have hTG : ∀ x ∈ s.takes, Good 12 x ∧ Txt 12 x := fun x hx => ⟨g4 x hx, t2 x hx⟩
  have d0 : DOk [] := ⟨List.nodup_nil, by simp⟩
  have hgr := fold_grew (c := fun p : Part => cntTys 12 p.2) (S := fun p x => ∃ y ∈ p.2, Sub y x) (G := fun p => textE p.1 = 0 ∧ p.1.size ≤ 60 ∧ ∀ x ∈ p.2, Good 12 x ∧ Txt 12 x) (fun p d hp hd => mgParts_grew (Nat.le_refl _) p d hp hd) s.name [] (fun p hp => ⟨(hPG p hp).1, (hPG p hp).2.1, (hPG p hp).2.2.2⟩) d0
  have hnlen := mgParts_len (Nat.le_refl 12) (fun t d ht hd hn => mgT_len 12 t d (Nat.le_refl _) ht hd hn) (l := s.name) (d := []) (fun p hp => ⟨(hPG p hp).1, (hPG p hp).2.1, (hPG p hp).2.2.2⟩) d0 (by simp; omega)
  have hdl : (mgFold (mgPart (mgT 12)) s.name []).2.length ≤ cntParts 12 s.name := by have := hgr.len; simp only [List.length_nil, Nat.zero_add] at this; exact this
  have HDO := hide hgr.ok
  have HPG := hide hPG
  have HTG := hide hTG
  have HD0 := hide d0
  obtain ⟨D1, hD1⟩ : ∃ x, (mgFold (mgPart (mgT 12)) s.name []).2 = x := ⟨_, rfl⟩
  have hN2 : (mgName (mgT 12) s.name []).2 = D1 := hD1
  have hN1 : (mgName (mgT 12) s.name []).1.length ≤ 800000 := by
    unfold mgName
    simp only [List.length_cons, List.length_append, List.length_nil]
    omega
  have htlen := mgTys_len (Nat.le_refl 12) (fun t d ht hd hn => mgT_len 12 t d (Nat.le_refl _) ht hd hn) (l := s.takes) (d := D1) hTG (hD1 ▸ hgr.ok) (by rw [hD1] at hdl; omega)
  rw [hD1] at hdl HDO
  obtain ⟨wa, hwa⟩ : ∃ x, w.alloc (.cells #[.slice A n c, .slice A2 n2 c2] 25) = x := ⟨_, rfl⟩
  rw [hwa] at HA HX
  obtain ⟨wb, hwb⟩ : ∃ x, wa.alloc (.cells #[.slice none 0 0] 124) = x := ⟨_, rfl⟩
  have HB := hide (show Below wa.heap.size wa wb by rw [← hwb]; exact (Below.refl _ _).alloc (Nat.le_refl _) _)
  have HY := hide (show wb.heap[wa.heap.size]? = some (.cells #[.slice none 0 0] 124 (0, 0)) by rw [← hwb]; exact heap_alloc_new wa _)
  have hza := HA.out.size
  have hzb := HB.out.size
  have hlta := lt_of_block HX.out
  have HAB := hide (HA.out.trans (HB.out.mono hza))
  have HS0 : Hid (RgS wa.heap.size wa.heap.size k [] wb) := hide ⟨⟨_, [], HY.out, World.ownsRow_nil _ _ _ _, Rows3.nil _ _ _⟩, Nat.le_refl _, by simp⟩
  have HL1 := hide (parts_more (parts_below hl HAB.out) hza)
  have HL2 := hide (tys_more (tys_below hl2 HAB.out) hza)
  have HXb := hide (block_below HX.out HB.out)
  obtain ⟨X, hX⟩ : ∃ X : ByteArray, ⟨(mgName (mgT 12) s.name []).1.toArray⟩ = X := ⟨_, rfl⟩
  have HXX := hide (show X.data.toList = (mgName (mgT 12) s.name []).1 by rw [← hX])
  have hXl : X.size ≤ 800000 := by
    have h1 : X.size = (mgName (mgT 12) s.name []).1.length := by rw [← hX]; rfl
    omega
  obtain ⟨Y, hY⟩ : ∃ Y : ByteArray, ⟨(mgFold (mgT 12) s.takes D1).1.toArray⟩ = Y := ⟨_, rfl⟩
  have HYY := hide (show Y.data.toList = (mgFold (mgT 12) s.takes D1).1 by rw [← hY])
  have hYl : Y.size ≤ 800000 := by
    have h1 : Y.size = (mgFold (mgT 12) s.takes D1).1.length := by rw [← hY]; rfl
    omega
  have HC1 := hide (fun W (hb : Below wa.heap.size wb W) (hs : RgS wa.heap.size wa.heap.size k [] W) => rName_of (rList_of (rOneAll 12)) k A n c s.name wa.heap.size wa.heap.size [] W hn hm (by omega) (parts_below HL1.out hb) HPG.out (Nat.le_refl _) HD0.out (by simp; omega) (by omega) hs (Nat.le_trans hzb hb.size))
  rw [hX, hN2] at HC1
  have HC2 := hide (fun W (hb : Below wa.heap.size wb W) (hs : RgS wa.heap.size wa.heap.size k D1 W) => rList_of (rOneAll 12) k A2 n2 c2 s.takes wa.heap.size wa.heap.size D1 W hn2 hm2 (by omega) (tys_below HL2.out hb) HTG.out (Nat.le_refl _) HDO.out (by omega) (by omega) hs (Nat.le_trans hzb hb.size))
  rw [hY] at HC2
  have HE := hide (show (⟨(mgSym s).toArray⟩ : ByteArray) = (⟨#[81]⟩ : ByteArray) ++ X ++ Y ++ (⟨#[90]⟩ : ByteArray) from (str_eq (by rw [app_toL, app_toL, app_toL, HXX.out, HYY.out]; unfold mgSym; rw [hN2]; simp)).symm)
  rw [HE.out]
  have s81 : (⟨#[81]⟩ : ByteArray).size = 1 := rfl
  have s90 : (⟨#[90]⟩ : ByteArray).size = 1 := rfl
  have nb1 : ¬ 9223372036854775807 < 1 + X.size := by omega
  have hq1 : ((⟨#[81]⟩ : ByteArray) ++ X).size = 1 + X.size := by rw [ByteArray.size_append, s81]
  have nb2 : ¬ 9223372036854775807 < 1 + X.size + Y.size := by omega
  have hq2 : ((⟨#[81]⟩ : ByteArray) ++ X ++ Y).size = 1 + X.size + Y.size := by rw [ByteArray.size_append, hq1]
  have nb3 : ¬ 9223372036854775807 < 1 + X.size + Y.size + 1 := by omega
  clear hl hl2 g1 g4 t1 t2 hPG hTG d0 hgr hD1 hN2 hX hY HE HXX HYY HD0 HDO HPG HTG hnlen htlen hN1 hdl HL1 HL2
  go_enter Tryd.func41, Tryd.ntmps41
  go_wp2_with (fail)
  have hS0 : wb.drew.cell? ⟨w.heap.size, 0, none⟩ = some (.slice A n c) ∧ wb.drew.cell? ⟨w.heap.size, 1, none⟩ = some (.slice A2 n2 c2) := ⟨block_cell HXb.out 0, block_cell HXb.out 1⟩
  refine wp_region_chain (fun W => W.cell? ⟨w.heap.size, 0, none⟩ = some (.slice A n c) ∧ W.cell? ⟨w.heap.size, 1, none⟩ = some (.slice A2 n2 c2)) 8 (by as_aux_lemma => kernel_rfl) (N := 12) (by as_aux_lemma => kernel_rfl) ?_; intro hsh
  refine wpAnyC_take0 (i := 0) (k := 8) (v := ?_) (d := some 6) rfl (by rfl) (by as_aux_lemma => kernel_rfl) (by as_aux_lemma => kernel_rfl) (by as_aux_lemma => kernel_rfl) hsh (by decide) (by intro _ _ _ h; exact h) (by assumption) (Or.inl ⟨by rfl, ?hy⟩) ?_; (case hy => (intro W _; go_simp; (try with_reducible rfl))); clear hsh; intro hsh
  refine wpAnyC_take0 (i := 1) (k := 8) (v := ?_) (d := some 7) rfl (by rfl) (by as_aux_lemma => kernel_rfl) (by as_aux_lemma => kernel_rfl) (by as_aux_lemma => kernel_rfl) hsh (by decide) (by intro _ _ _ h; exact h) (by assumption) (Or.inl ⟨by rfl, ?hy⟩) ?_; (case hy => (intro W _; go_simp; (try with_reducible rfl))); clear hsh; intro hsh
  refine wpAnyC_take (i := 2) (k := 8) (f := 40) (v := ?_) (d := some 8) rfl (by rfl) (by as_aux_lemma => kernel_rfl) (by as_aux_lemma => kernel_rfl) (by as_aux_lemma => kernel_rfl) hsh (by decide) (by as_aux_lemma => kernel_rfl) (by intro _ _ _ h; exact h) (by assumption) (Or.inl ⟨by rfl, ?hy⟩) ?_; (case hy => (rintro W ⟨y0, y1⟩; go_simp; (try with_reducible rfl))); clear hsh; intro hsh
  refine wpAnyC_take0 (i := 5) (k := 8) (v := ?_) (d := some 11) rfl (by rfl) (by as_aux_lemma => kernel_rfl) (by as_aux_lemma => kernel_rfl) (by as_aux_lemma => kernel_rfl) hsh (by decide) (by intro _ _ _ h; exact h) (by assumption) (Or.inl ⟨by rfl, ?hy⟩) ?_; (case hy => (intro W _; go_simp; (try with_reducible rfl))); clear hsh; intro hsh
  refine wpAnyC_take0 (i := 6) (k := 8) (v := ?_) (d := some 12) rfl (by rfl) (by as_aux_lemma => kernel_rfl) (by as_aux_lemma => kernel_rfl) (by as_aux_lemma => kernel_rfl) hsh (by decide) (by intro _ _ _ h; exact h) (by assumption) (Or.inl ⟨by rfl, ?hy⟩) ?_; (case hy => (intro W _; go_simp; (try with_reducible rfl))); clear hsh; intro hsh
  refine wpAnyC_take (i := 7) (k := 8) (f := 40) (v := ?_) (d := some 13) rfl (by rfl) (by as_aux_lemma => kernel_rfl) (by as_aux_lemma => kernel_rfl) (by as_aux_lemma => kernel_rfl) hsh (by decide) (by as_aux_lemma => kernel_rfl) (by intro _ _ _ h; exact h) (by assumption) (Or.inl ⟨by rfl, ?hy⟩) ?_; (case hy => (rintro W ⟨y0, y1⟩; go_simp; (try with_reducible rfl))); clear hsh; intro hsh
  refine wpAnyC_ready (rs := [3]) (by as_aux_lemma => kernel_rfl) (by simp) ?_; refine AllC.cons (i := 3) rfl (by as_aux_lemma => kernel_rfl) hsh (fun K hK => ?_) AllC.nil
  go_simp
  go_at_call 79
  refine (HC1.out wb.drew (below_drewN (Below.refl _ _) 1) (HS0.out.below hzb (below_drewN (Below.refl _ _) 1))).mono ?_
  rintro e w3 ⟨rfl, hr3⟩
  have HR3 := hide hr3
  have HXc := hide ((hr3.be.block w.heap.size hlta).trans HXb.out)
  clear hr3
  try go_simp
  refine hK _ _ (fun _ => ⟨block_cell HXc.out 0, block_cell HXc.out 1⟩) ?_
  clear hK K hsh hS0
  intro hsh
  have hS1 : w3.cell? ⟨w.heap.size, 0, none⟩ = some (.slice A n c) ∧ w3.cell? ⟨w.heap.size, 1, none⟩ = some (.slice A2 n2 c2) := ⟨block_cell HXc.out 0, block_cell HXc.out 1⟩
  refine wpAnyC_take0 (i := 4) (k := 8) (v := ?_) (d := some 10) rfl (by rfl) (by as_aux_lemma => kernel_rfl) (by as_aux_lemma => kernel_rfl) (by as_aux_lemma => kernel_rfl) hsh (by decide) (by intro _ _ _ h; exact h) (by assumption) (Or.inl ⟨by rfl, ?hy⟩) ?_; (case hy => (intro W _; go_simp; (try with_reducible rfl))); clear hsh; intro hsh
  refine wpAnyC_tail (by as_aux_lemma => kernel_rfl) (by simp) (by as_aux_lemma => kernel_rfl) ?_; simp only [List.drop_succ_cons, List.drop_zero]; clear hsh
  go_simp
  have HB3 : Hid (Below wa.heap.size wb w3) := hide ((show Below wa.heap.size wb wb.drew from below_drewN (Below.refl _ _) 1).trans HR3.out.be)
  have HC3 := hide (HC2.out w3 HB3.out HR3.out.st)
  go_wp2_with (go_at_call 80; refine HC3.out.mono ?_; rintro e w4 ⟨rfl, hr4⟩; have HB4 := hide (HAB.out.trans ((HB3.out.trans hr4.be).mono hza)); clear hr4)
  go_ret
  exact ⟨rfl, HB4.out⟩
end Go.Proofs.YtecancnojdifaaaDoor
