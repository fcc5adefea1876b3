/- Walks of Same and SameSymbol (printed by gen_ns.py). -/
import Derived.Test.YtocpmbpckbjepaaDoorNmText
namespace Go.Proofs.YtocpmbpckbjepaaDoor
open Go.RowKit
set_option linter.unusedVariables false
noncomputable def same {α : Type} (a b : α) : Bool := @decide (a = b) (Classical.propDecidable _)
theorem same_yes {α : Type} {a b : α} (h : a = b) : same a b = true := @decide_eq_true _ (Classical.propDecidable _) h
theorem same_no {α : Type} {a b : α} (h : ¬ a = b) : same a b = false := @decide_eq_false _ (Classical.propDecidable _) h
theorem same_iff {α : Type} {a b : α} (h : same a b = true) : a = b := @of_decide_eq_true _ (Classical.propDecidable _) h
theorem same_not {α : Type} {a b : α} (h : same a b = false) : ¬ a = b := @of_decide_eq_false _ (Classical.propDecidable _) h
theorem str_ne {s t : ByteArray} (h : ¬ s = t) : ¬ s.toList = t.toList ∧ (s.toList == t.toList) = false := by
  have h1 : ¬ s.toList = t.toList := fun e => h (by
    rw [ByteArray.toList_eq, ByteArray.toList_eq] at e
    obtain ⟨⟨a⟩⟩ := s
    obtain ⟨⟨b⟩⟩ := t
    simp at e
    rw [e])
  exact ⟨h1, beq_false_of_ne h1⟩
theorem list_hit {α : Type} {l l' : List α} {j : Nat} {x x' : α} (h : l[j]? = some x) (h' : l'[j]? = some x') (hne : ¬ x = x') : same l l' = false := same_no (fun e => hne (by rw [e, h'] at h; exact (Option.some.inj h).symm))
theorem list_all {α : Type} {l l' : List α} {n : Nat} (hl : l.length = n) (hl' : l'.length = n) (h : ∀ i, i < n → l[i]? = l'[i]?) : same l l' = true := same_yes (by
  apply List.ext_getElem?
  intro i
  by_cases hi : i < n
  · exact h i hi
  · rw [List.getElem?_eq_none (by omega), List.getElem?_eq_none (by omega)])
theorem TyIn.up {w w' : World} {k : Nat} {t : Ty} {cs : List Value} (h : TyIn w w.heap.size k t cs) (hb : Below w.heap.size w w') : TyIn w' w'.heap.size k t cs := (h.below hb).more hb.size
theorem PartIn.up {w w' : World} {k : Nat} {p : Part} {cs : List Value} (h : PartIn w w.heap.size (TyIn w w.heap.size k) p cs) (hb : Below w.heap.size w w') : PartIn w' w'.heap.size (TyIn w' w'.heap.size k) p cs := (h.below hb (R' := TyIn w' w.heap.size k) (fun _ _ h => h.below hb)).more hb.size (fun _ _ h => h.more hb.size)
theorem tys_up {w w' : World} {k n : Nat} {A : Option Addr} {l : List Ty} (h : Tys w w.heap.size k A n l) (hb : Below w.heap.size w w') : Tys w' w'.heap.size k A n l := tys_more (tys_below h hb) hb.size
theorem parts_up {w w' : World} {k n : Nat} {A : Option Addr} {l : List Part} (h : Parts w w.heap.size k A n l) (hb : Below w.heap.size w w') : Parts w' w'.heap.size k A n l := parts_more (parts_below h hb) hb.size

def nTEq (k : Nat) : Prop := ∀ (t t' : Ty) (cs cs' : List Value) (w : World), TyIn w w.heap.size k t cs → TyIn w w.heap.size k t' cs' →
  Calls Tryd.prog 54 #[.agg cs.toArray, .agg cs'.toArray] w fun e w' => e = .returned (.bool (same t t')) ∧ Below w.heap.size w w'
theorem nTEq_zero : nTEq 0 := fun _ _ _ _ _ h => h.elim

set_option maxRecDepth 100000 in
set_option maxHeartbeats 4000000 in
theorem nEqT {k : Nat} (H : nTEq k) (A : Option Addr) (n c : Nat) (A' : Option Addr) (n' c' : Nat) (l l' : List Ty) (w : World) (hn : n ≤ maxLen) (hn' : n' ≤ maxLen) (hl : Tys w w.heap.size k A n l) (hl' : Tys w w.heap.size k A' n' l') :
    Calls Tryd.prog 53 #[.slice A n c, .slice A' n' c', .func (.func 54) #[] #[]] w fun e w' => e = .returned (.bool (same l l')) ∧ Below w.heap.size w w' := by
  unfold maxLen at hn hn'
  have HH := hide H
  have HSL := hide hl
  have HSL' := hide hl'
  have HL := hide hl.len
  have HL' := hide hl'.len
  clear hl hl' H
  by_cases hnn : n = n'
  · subst hnn
    clear hn'
    go_enter Tryd.func53, Tryd.ntmps53
    go_wp2_with (fail)
    go_loopw [17] (fun i wr => ∃ j : Nat, j ≤ n ∧ i = .int .i64 j ∧ (∀ i, i < j → l[i]? = l'[i]?) ∧ Below w.heap.size w wr) (fun i _ => n - (intOf i).toNat)
    case atStart => exact ⟨0, Nat.zero_le _, rfl, fun i h => by omega, Below.refl _ _⟩
    case round =>
      obtain ⟨j, hj, rfl, hall, hB⟩ := hrel
      have HALL := hide hall
      clear hall
      have hz := hB.size
      by_cases hlt : j < n
      · obtain ⟨bb, oo, x, cs, rfl, hbb, hx, hin, hc⟩ := (tys_up HSL.out hB).at_ hlt
        obtain ⟨bb', oo', x', cs', rfl, hbb', hx', hin', hc'⟩ := (tys_up HSL'.out hB).at_ hlt
        have HX := hide hx
        have HX' := hide hx'
        have HXO := hide hin
        have HXO' := hide hin'
        have CW := hide (fun (W : World) h h' => HH.out x x' cs cs' W h h')
        cases k with
        | zero => exact hin.elim
        | succ k =>
        obtain ⟨A1, n1, cap1, A2, n2, cap2, rfl, _⟩ := hin
        obtain ⟨A1', n1', cap1', A2', n2', cap2', rfl, _⟩ := hin'
        have c0 : wr.cell? ⟨bb, oo + j * 3, none⟩ = some (.int .i64 x.kind) := by simpa using hc 0 _ rfl
        have c1 : wr.cell? ⟨bb, oo + j * 3 + 1, none⟩ = some (.slice A1 n1 cap1) := hc 1 _ rfl
        have c2 : wr.cell? ⟨bb, oo + j * 3 + 2, none⟩ = some (.slice A2 n2 cap2) := hc 2 _ rfl
        have d0 : wr.cell? ⟨bb', oo' + j * 3, none⟩ = some (.int .i64 x'.kind) := by simpa using hc' 0 _ rfl
        have d1 : wr.cell? ⟨bb', oo' + j * 3 + 1, none⟩ = some (.slice A1' n1' cap1') := hc' 1 _ rfl
        have d2 : wr.cell? ⟨bb', oo' + j * 3 + 2, none⟩ = some (.slice A2' n2' cap2') := hc' 2 _ rfl
        have HG : Hid (∀ o o' : Obj, Below wr.heap.size wr ((wr.alloc o).alloc o')) := hide fun o o' => ((Below.refl _ _).alloc (Nat.le_refl _) _).alloc (by simp) _
        clear hc hc' hx hx'
        obtain ⟨e, he⟩ : ∃ e, same x x' = e := ⟨_, rfl⟩
        rw [he] at CW
        have HE := hide he
        clear he
        cases e
        · have E := hide (list_hit HX.out HX'.out (same_not HE.out))
          go_wp2_with (go_at_call 54; refine (CW.out _ (HXO.out.up (HG.out _ _)) (HXO'.out.up (HG.out _ _))).mono ?_; rintro r w1 ⟨rfl, hw1⟩; have hB1 : Below w.heap.size w w1 := hB.trans (((HG.out _ _).trans (hw1.mono (by simp; omega))).mono hz))
          go_ret
          exact ⟨by rw [E.out]; rfl, hB1⟩
        · go_wp2_with (go_at_call 54; refine (CW.out _ (HXO.out.up (HG.out _ _)) (HXO'.out.up (HG.out _ _))).mono ?_; rintro r w1 ⟨rfl, hw1⟩; have hB1 : Below w.heap.size w w1 := hB.trans (((HG.out _ _).trans (hw1.mono (by simp; omega))).mono hz))
          go_roundw
          case rel => exact ⟨j + 1, by omega, by go_num, fun i hi => by (by_cases e : i = j); (subst e; rw [HX.out, HX'.out, same_iff HE.out]); exact HALL.out i (by omega), hB1⟩
          case measure => simp [intOf]; omega
      · have E := hide (list_all HL.out HL'.out (fun i hi => HALL.out i (by omega)))
        go_wp2_with (fail)
        go_ret
        exact ⟨by rw [E.out]; rfl, hB⟩
  · have E := hide (show same l l' = false from same_no (fun e => hnn (by rw [← HL.out, ← HL'.out, e])))
    go_enter Tryd.func53, Tryd.ntmps53
    go_wp2_with (fail)
    go_ret
    exact ⟨by rw [E.out]; rfl, Below.refl _ _⟩

theorem nTypes {k : Nat} (H : nTEq k) (A : Option Addr) (n c : Nat) (A' : Option Addr) (n' c' : Nat) (l l' : List Ty) (w : World) (hn : n ≤ maxLen) (hn' : n' ≤ maxLen) (hl : Tys w w.heap.size k A n l) (hl' : Tys w w.heap.size k A' n' l') :
    Calls Tryd.prog 31 #[.slice A n c, .slice A' n' c'] w fun e w' => e = .returned (.bool (same l l')) ∧ Below w.heap.size w w' := by
  have HC := hide (nEqT H A n c A' n' c' l l' w hn hn' hl hl')
  clear hl hl' H hn hn'
  go_enter Tryd.func31, Tryd.ntmps31
  go_wp2_with (go_at_call 53; refine HC.out.mono ?_; rintro r w1 ⟨rfl, hw1⟩)
  go_ret
  exact ⟨rfl, hw1⟩

/-- Equality of parts by name.sameParts$1. -/
def nPEq (k : Nat) : Prop := ∀ (p p' : Part) (cs cs' : List Value) (w : World), PartIn w w.heap.size (TyIn w w.heap.size k) p cs → PartIn w w.heap.size (TyIn w w.heap.size k) p' cs' →
  Calls Tryd.prog 52 #[.agg cs.toArray, .agg cs'.toArray] w fun e w' => e = .returned (.bool (same p p')) ∧ Below w.heap.size w w'
set_option maxRecDepth 100000 in
set_option maxHeartbeats 2000000 in
theorem nPart {k : Nat} (H : nTEq k) : nPEq k := by
  intro p p' cs cs' w hin hin'
  obtain ⟨A, n, c, rfl, hs, hn, hm, hl⟩ := hin
  obtain ⟨A', n', c', rfl, hs', hn', hm', hl'⟩ := hin'
  obtain ⟨s, l⟩ := p
  obtain ⟨s', l'⟩ := p'
  have HG : Hid (∀ o o' : Obj, Below w.heap.size w ((w.alloc o).alloc o')) := hide fun o o' => ((Below.refl _ _).alloc (Nat.le_refl _) _).alloc (by simp) _
  have CW := hide (fun o o' : Obj => nTypes H A n c A' n' c' l l' ((w.alloc o).alloc o') (Nat.le_trans hn hm) (Nat.le_trans hn' hm') (tys_up hl (HG.out _ _)) (tys_up hl' (HG.out _ _)))
  unfold maxLen at hs hs' hm hm'
  clear hl hl'
  by_cases he : s = s'
  · subst he
    have E := hide (show same ((s, l) : Part) (s, l') = same l l' by (by_cases h : l = l'); (rw [h, same_yes rfl, same_yes rfl]); rw [same_no h, same_no (fun e => h (Prod.mk.inj e).2)])
    rw [E.out]
    go_enter Tryd.func52, Tryd.ntmps52
    go_wp2_with (go_at_call 31; refine (CW.out _ _).mono ?_; rintro r w1 ⟨rfl, hw1⟩; have hB1 : Below w.heap.size w w1 := (HG.out _ _).trans (hw1.mono (by simp; omega)))
    go_ret
    exact ⟨rfl, hB1⟩
  · have E := hide (show same ((s, l) : Part) (s', l') = false from same_no (fun e => he (Prod.mk.inj e).1))
    rw [E.out]
    obtain ⟨he1, he2⟩ := str_ne he
    clear he
    go_enter Tryd.func52, Tryd.ntmps52
    go_wp2_with (fail)
    go_ret
    exact ⟨rfl, HG.out _ _⟩

set_option maxRecDepth 100000 in
set_option maxHeartbeats 4000000 in
theorem nEqP {k : Nat} (H : nPEq k) (A : Option Addr) (n c : Nat) (A' : Option Addr) (n' c' : Nat) (l l' : List Part) (w : World) (hn : n ≤ maxLen) (hn' : n' ≤ maxLen) (hl : Parts w w.heap.size k A n l) (hl' : Parts w w.heap.size k A' n' l') :
    Calls Tryd.prog 51 #[.slice A n c, .slice A' n' c', .func (.func 52) #[] #[]] w fun e w' => e = .returned (.bool (same l l')) ∧ Below w.heap.size w w' := by
  unfold maxLen at hn hn'
  have HH := hide H
  have HSL := hide hl
  have HSL' := hide hl'
  have HL := hide hl.len
  have HL' := hide hl'.len
  clear hl hl' H
  by_cases hnn : n = n'
  · subst hnn
    clear hn'
    go_enter Tryd.func51, Tryd.ntmps51
    go_wp2_with (fail)
    go_loopw [17] (fun i wr => ∃ j : Nat, j ≤ n ∧ i = .int .i64 j ∧ (∀ i, i < j → l[i]? = l'[i]?) ∧ Below w.heap.size w wr) (fun i _ => n - (intOf i).toNat)
    case atStart => exact ⟨0, Nat.zero_le _, rfl, fun i h => by omega, Below.refl _ _⟩
    case round =>
      obtain ⟨j, hj, rfl, hall, hB⟩ := hrel
      have HALL := hide hall
      clear hall
      have hz := hB.size
      by_cases hlt : j < n
      · obtain ⟨bb, oo, x, cs, rfl, hbb, hx, hin, hc⟩ := (parts_up HSL.out hB).at_ hlt
        obtain ⟨bb', oo', x', cs', rfl, hbb', hx', hin', hc'⟩ := (parts_up HSL'.out hB).at_ hlt
        have HX := hide hx
        have HX' := hide hx'
        have HXO := hide hin
        have HXO' := hide hin'
        have CW := hide (fun (W : World) h h' => HH.out x x' cs cs' W h h')
        obtain ⟨A1, n1, cap1, rfl, _⟩ := hin
        obtain ⟨A1', n1', cap1', rfl, _⟩ := hin'
        have c0 : wr.cell? ⟨bb, oo + j * 2, none⟩ = some (.string x.1) := by simpa using hc 0 _ rfl
        have c1 : wr.cell? ⟨bb, oo + j * 2 + 1, none⟩ = some (.slice A1 n1 cap1) := hc 1 _ rfl
        have d0 : wr.cell? ⟨bb', oo' + j * 2, none⟩ = some (.string x'.1) := by simpa using hc' 0 _ rfl
        have d1 : wr.cell? ⟨bb', oo' + j * 2 + 1, none⟩ = some (.slice A1' n1' cap1') := hc' 1 _ rfl
        have HG : Hid (∀ o o' : Obj, Below wr.heap.size wr ((wr.alloc o).alloc o')) := hide fun o o' => ((Below.refl _ _).alloc (Nat.le_refl _) _).alloc (by simp) _
        clear hc hc' hx hx'
        obtain ⟨e, he⟩ : ∃ e, same x x' = e := ⟨_, rfl⟩
        rw [he] at CW
        have HE := hide he
        clear he
        cases e
        · have E := hide (list_hit HX.out HX'.out (same_not HE.out))
          go_wp2_with (go_at_call 52; refine (CW.out _ (HXO.out.up (HG.out _ _)) (HXO'.out.up (HG.out _ _))).mono ?_; rintro r w1 ⟨rfl, hw1⟩; have hB1 : Below w.heap.size w w1 := hB.trans (((HG.out _ _).trans (hw1.mono (by simp; omega))).mono hz))
          go_ret
          exact ⟨by rw [E.out]; rfl, hB1⟩
        · go_wp2_with (go_at_call 52; refine (CW.out _ (HXO.out.up (HG.out _ _)) (HXO'.out.up (HG.out _ _))).mono ?_; rintro r w1 ⟨rfl, hw1⟩; have hB1 : Below w.heap.size w w1 := hB.trans (((HG.out _ _).trans (hw1.mono (by simp; omega))).mono hz))
          go_roundw
          case rel => exact ⟨j + 1, by omega, by go_num, fun i hi => by (by_cases e : i = j); (subst e; rw [HX.out, HX'.out, same_iff HE.out]); exact HALL.out i (by omega), hB1⟩
          case measure => simp [intOf]; omega
      · have E := hide (list_all HL.out HL'.out (fun i hi => HALL.out i (by omega)))
        go_wp2_with (fail)
        go_ret
        exact ⟨by rw [E.out]; rfl, hB⟩
  · have E := hide (show same l l' = false from same_no (fun e => hnn (by rw [← HL.out, ← HL'.out, e])))
    go_enter Tryd.func51, Tryd.ntmps51
    go_wp2_with (fail)
    go_ret
    exact ⟨by rw [E.out]; rfl, Below.refl _ _⟩

theorem nParts {k : Nat} (H : nPEq k) (A : Option Addr) (n c : Nat) (A' : Option Addr) (n' c' : Nat) (l l' : List Part) (w : World) (hn : n ≤ maxLen) (hn' : n' ≤ maxLen) (hl : Parts w w.heap.size k A n l) (hl' : Parts w w.heap.size k A' n' l') :
    Calls Tryd.prog 30 #[.slice A n c, .slice A' n' c'] w fun e w' => e = .returned (.bool (same l l')) ∧ Below w.heap.size w w' := by
  have HC := hide (nEqP H A n c A' n' c' l l' w hn hn' hl hl')
  clear hl hl' H hn hn'
  go_enter Tryd.func30, Tryd.ntmps30
  go_wp2_with (go_at_call 51; refine HC.out.mono ?_; rintro r w1 ⟨rfl, hw1⟩)
  go_ret
  exact ⟨rfl, hw1⟩

set_option maxRecDepth 100000 in
set_option maxHeartbeats 4000000 in
theorem nTy {k : Nat} (HP : nPEq k) (H : nTEq k) : nTEq (k + 1) := by
  intro t t' cs cs' w hin hin'
  obtain ⟨A, n, c, A2, n2, c2, rfl, hn, hm, hn2, hm2, hl, hl2⟩ := hin
  obtain ⟨A', n', c', A2', n2', c2', rfl, hn', hm', hn2', hm2', hl', hl2'⟩ := hin'
  obtain ⟨K, N1, O1⟩ := t
  obtain ⟨K', N1', O1'⟩ := t'
  simp only [Ty.kind, Ty.name, Ty.of] at hl hl2 hl' hl2' ⊢
  have HG : Hid (∀ o o' : Obj, Below w.heap.size w ((w.alloc o).alloc o')) := hide fun o o' => ((Below.refl _ _).alloc (Nat.le_refl _) _).alloc (by simp) _
  have CP := hide (fun o o' : Obj => nParts HP A n c A' n' c' N1 N1' ((w.alloc o).alloc o') (Nat.le_trans hn hm) (Nat.le_trans hn' hm') (parts_up hl (HG.out _ _)) (parts_up hl' (HG.out _ _)))
  have CT := hide (fun (W : World) (h : Below w.heap.size w W) => nTypes H A2 n2 c2 A2' n2' c2' O1 O1' W (Nat.le_trans hn2 hm2) (Nat.le_trans hn2' hm2') (tys_up hl2 h) (tys_up hl2' h))
  unfold maxLen at hm hm' hm2 hm2'
  clear hl hl' hl2 hl2' HP H
  by_cases he : K = K'
  · subst he
    obtain ⟨v, hv⟩ : ∃ v, same N1 N1' = v := ⟨_, rfl⟩
    rw [hv] at CP
    cases v
    · have E := hide (show same (Ty.mk K N1 O1) (Ty.mk K N1' O1') = false from same_no (fun e => same_not hv (Ty.mk.inj e).2.1))
      rw [E.out]
      clear hv
      go_enter Tryd.func54, Tryd.ntmps54
      go_wp2_with (go_at_call 30; refine (CP.out _ _).mono ?_; rintro r w1 ⟨rfl, hw1⟩; have hB1 : Below w.heap.size w w1 := (HG.out _ _).trans (hw1.mono (by simp; omega)))
      go_ret
      exact ⟨rfl, hB1⟩
    · obtain rfl := same_iff hv
      have E := hide (show same (Ty.mk K N1 O1) (Ty.mk K N1 O1') = same O1 O1' by (by_cases h : O1 = O1'); (rw [h, same_yes rfl, same_yes rfl]); rw [same_no h, same_no (fun e => h (Ty.mk.inj e).2.2)])
      rw [E.out]
      clear hv
      have HX := hide (heap_alloc_new w (.cells #[.int .i64 K, .slice A n c, .slice A2 n2 c2] 75))
      have HY := hide (heap_alloc_new (w.alloc (.cells #[.int .i64 K, .slice A n c, .slice A2 n2 c2] 75)) (.cells #[.int .i64 K, .slice A' n' c', .slice A2' n2' c2'] 75))
      have HX2 := hide (block_below HX.out ((Below.refl _ _).alloc (Nat.le_refl _) (.cells #[.int .i64 K, .slice A' n' c', .slice A2' n2' c2'] 75)))
      go_enter Tryd.func54, Tryd.ntmps54
      go_wp2_with (first | (go_at_call 30; refine (CP.out _ _).mono ?_; rintro r w1 ⟨rfl, hw1⟩; have hB1 : Below w.heap.size w w1 := (HG.out _ _).trans (hw1.mono (by simp; omega)); have x0 : w1.cell? ⟨w.heap.size, 0, none⟩ = some (.int .i64 K) := (block_cell (block_below HX2.out hw1) 0).trans rfl; have x2 : w1.cell? ⟨w.heap.size, 2, none⟩ = some (.slice A2 n2 c2) := (block_cell (block_below HX2.out hw1) 2).trans rfl; have y2 : w1.cell? ⟨w.heap.size + 1, 2, none⟩ = some (.slice A2' n2' c2') := by (have h := (block_cell (block_below HY.out hw1) 2).trans rfl; simpa using h)) | (go_at_call 31; refine (CT.out _ hB1).mono ?_; rintro r w2 ⟨rfl, hw2⟩; have hB2 := hB1.trans (hw2.mono hB1.size)))
      go_ret
      exact ⟨rfl, hB2⟩
  · have E := hide (show same (Ty.mk K N1 O1) (Ty.mk K' N1' O1') = false from same_no (fun e => he (Ty.mk.inj e).1))
    rw [E.out]
    have he' : (K == K') = false := by simpa using he
    go_enter Tryd.func54, Tryd.ntmps54
    go_wp2_with (fail)
    go_ret
    exact ⟨rfl, HG.out _ _⟩

theorem nAll : ∀ k, nTEq k
  | 0 => nTEq_zero
  | k + 1 => nTy (nPart (nAll k)) (nAll k)
/-- A symbol's two cells, k types deep. -/
def SymIn (w : World) (k : Nat) (s : Sym) (cs : List Value) : Prop :=
  ∃ A n c A' n' c', cs = [.slice A n c, .slice A' n' c'] ∧ n ≤ c ∧ c ≤ maxLen ∧ n' ≤ c' ∧ c' ≤ maxLen ∧ Parts w w.heap.size k A n s.name ∧ Tys w w.heap.size k A' n' s.takes
theorem SymIn.up {w w' : World} {k : Nat} {s : Sym} {cs : List Value} (h : SymIn w k s cs) (hb : Below w.heap.size w w') : SymIn w' k s cs := by
  obtain ⟨A, n, c, A', n', c', e, h1, h2, h3, h4, h5, h6⟩ := h
  exact ⟨A, n, c, A', n', c', e, h1, h2, h3, h4, parts_up h5 hb, tys_up h6 hb⟩
theorem SymIn.deep {w : World} {k k' : Nat} {s : Sym} {cs : List Value} (h : SymIn w k s cs) (hk : k ≤ k') : SymIn w k' s cs := by
  obtain ⟨A, n, c, A', n', c', e, h1, h2, h3, h4, h5, h6⟩ := h
  exact ⟨A, n, c, A', n', c', e, h1, h2, h3, h4, parts_deep h5 hk, tys_deep h6 hk⟩

set_option maxRecDepth 100000 in
set_option maxHeartbeats 4000000 in
theorem Same_any (k : Nat) (s s' : Sym) (cs cs' : List Value) (w : World) (hin : SymIn w k s cs) (hin' : SymIn w k s' cs') :
    Calls Tryd.prog 13 #[.agg cs.toArray, .agg cs'.toArray] w fun e w' => e = .returned (.bool (same s s')) ∧ Below w.heap.size w w' := by
  obtain ⟨A, n, c, A2, n2, c2, rfl, hn, hm, hn2, hm2, hl, hl2⟩ := hin
  obtain ⟨A', n', c', A2', n2', c2', rfl, hn', hm', hn2', hm2', hl', hl2'⟩ := hin'
  obtain ⟨N1, O1⟩ := s
  obtain ⟨N1', O1'⟩ := s'
  have HG : Hid (∀ o o' : Obj, Below w.heap.size w ((w.alloc o).alloc o')) := hide fun o o' => ((Below.refl _ _).alloc (Nat.le_refl _) _).alloc (by simp) _
  have CP := hide (fun o o' : Obj => nParts (nPart (nAll k)) A n c A' n' c' N1 N1' ((w.alloc o).alloc o') (Nat.le_trans hn hm) (Nat.le_trans hn' hm') (parts_up hl (HG.out _ _)) (parts_up hl' (HG.out _ _)))
  have CT := hide (fun (W : World) (h : Below w.heap.size w W) => nTypes (nAll k) A2 n2 c2 A2' n2' c2' O1 O1' W (Nat.le_trans hn2 hm2) (Nat.le_trans hn2' hm2') (tys_up hl2 h) (tys_up hl2' h))
  unfold maxLen at hm hm' hm2 hm2'
  clear hl hl' hl2 hl2'
  obtain ⟨v, hv⟩ : ∃ v, same N1 N1' = v := ⟨_, rfl⟩
  rw [hv] at CP
  cases v
  · have E := hide (show same (Sym.mk N1 O1) (Sym.mk N1' O1') = false from same_no (fun e => same_not hv (Sym.mk.inj e).1))
    rw [E.out]
    clear hv
    go_enter Tryd.func13, Tryd.ntmps13
    go_wp2_with (go_at_call 30; refine (CP.out _ _).mono ?_; rintro r w1 ⟨rfl, hw1⟩; have hB1 : Below w.heap.size w w1 := (HG.out _ _).trans (hw1.mono (by simp; omega)))
    go_ret
    exact ⟨rfl, hB1⟩
  · obtain rfl := same_iff hv
    have E := hide (show same (Sym.mk N1 O1) (Sym.mk N1 O1') = same O1 O1' by (by_cases h : O1 = O1'); (rw [h, same_yes rfl, same_yes rfl]); rw [same_no h, same_no (fun e => h (Sym.mk.inj e).2)])
    rw [E.out]
    clear hv
    have HX := hide (heap_alloc_new w (.cells #[.slice A n c, .slice A2 n2 c2] 25))
    have HY := hide (heap_alloc_new (w.alloc (.cells #[.slice A n c, .slice A2 n2 c2] 25)) (.cells #[.slice A' n' c', .slice A2' n2' c2'] 25))
    have HX2 := hide (block_below HX.out ((Below.refl _ _).alloc (Nat.le_refl _) (.cells #[.slice A' n' c', .slice A2' n2' c2'] 25)))
    go_enter Tryd.func13, Tryd.ntmps13
    go_wp2_with (first | (go_at_call 30; refine (CP.out _ _).mono ?_; rintro r w1 ⟨rfl, hw1⟩; have hB1 : Below w.heap.size w w1 := (HG.out _ _).trans (hw1.mono (by simp; omega)); have x2 : w1.cell? ⟨w.heap.size, 1, none⟩ = some (.slice A2 n2 c2) := (block_cell (block_below HX2.out hw1) 1).trans rfl; have y2 : w1.cell? ⟨w.heap.size + 1, 1, none⟩ = some (.slice A2' n2' c2') := by (have h := (block_cell (block_below HY.out hw1) 1).trans rfl; simpa using h)) | (go_at_call 31; refine (CT.out _ hB1).mono ?_; rintro r w2 ⟨rfl, hw2⟩; have hB2 := hB1.trans (hw2.mono hB1.size)))
    go_ret
    exact ⟨rfl, hB2⟩

end Go.Proofs.YtocpmbpckbjepaaDoor