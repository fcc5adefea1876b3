/- Walks of Same and SameFaults: the closures, slices.EqualFunc (printed by gen_sm.py). -/
import Derived.Test.YtncpeokniffafaaGreatDoorStFault
import Derived.Test.YtncpeokniffafaaGreatDoorStEqB
import Derived.BigQuiet
namespace Go.Proofs.YtncpeokniffafaaGreatDoor
open Go.RowKit
set_option linter.unusedVariables false
/-- Whether two faults read alike. -/
def fltEq (x y : FaultT) : Bool := decide (x.kind = y.kind) && (decide (x.text = y.text) && decide (x.frs = y.frs))
def fltsEq (a b : List FaultT) : Bool := decide (a.length = b.length) && (a.zip b).all fun p => fltEq p.1 p.2
theorem fltEq_refl (x : FaultT) : fltEq x x = true := by simp [fltEq]
theorem zip_refl (l : List FaultT) : ((l.zip l).all fun p => fltEq p.1 p.2) = true := by
  induction l with
  | nil => rfl
  | cons x l ih => rw [List.zip_cons_cons, List.all_cons, ih, fltEq_refl]; rfl
theorem fltsEq_refl (l : List FaultT) : fltsEq l l = true := by rw [fltsEq, zip_refl]; simp
theorem zip_take_succ {a b : List FaultT} {k : Nat} {x y : FaultT} (hx : a[k]? = some x) (hy : b[k]? = some y) : (a.take (k + 1)).zip (b.take (k + 1)) = (a.take k).zip (b.take k) ++ [(x, y)] := by
  have h1 : k < a.length := (List.getElem?_eq_some_iff.1 hx).1
  have h2 : k < b.length := (List.getElem?_eq_some_iff.1 hy).1
  rw [take_succ_get hx, take_succ_get hy, List.zip_append (by simp; omega)]
  rfl
theorem fltsEq_false {a b : List FaultT} {k : Nat} {x y : FaultT} (hx : a[k]? = some x) (hy : b[k]? = some y) (h : fltEq x y = false) : fltsEq a b = false := by
  rw [fltsEq, Bool.and_eq_false_iff]
  right
  rw [List.all_eq_false]
  refine ⟨(x, y), ?_, by simp [h]⟩
  rw [List.mem_iff_getElem?]
  exact ⟨k, by rw [List.getElem?_zip_eq_some]; exact ⟨hx, hy⟩⟩
set_option maxRecDepth 100000 in
set_option maxHeartbeats 2000000 in
theorem clo1_any (x y : FaultT) (w : World) (hx : x.ok w) (hy : y.ok w) :
    Calls Tryz.prog 19 #[.agg #[.string x.kind, .string x.text, .slice x.A x.n x.cap], .agg #[.string y.kind, .string y.text, .slice y.A y.n y.cap]] w fun e w' => e = .returned (.bool (fltEq x y)) ∧ Below w.heap.size w w' := by
  have hxn := hx.nl
  have hyn := hy.nl
  have hxs := hide hx.sl
  have hys := hide hy.sl
  clear hx hy
  have b0 := bytes_beq x.kind y.kind
  have b1 := bytes_beq x.text y.text
  by_cases h0 : x.kind = y.kind
  · have h0' : (x.kind.toList == y.kind.toList) = true := by rw [b0]; simpa using h0
    by_cases h1 : x.text = y.text
    · have h1' : (x.text.toList == y.text.toList) = true := by rw [b1]; simpa using h1
      have E := hide (show fltEq x y = decide (x.frs = y.frs) by rw [fltEq, decide_eq_true h0, decide_eq_true h1]; rfl)
      clear h0 h1 b0 b1
      go_enter Tryz.func19, Tryz.ntmps19
      go_wp2_with (go_at_call 20; refine (Equal_any _ _ _ _ _ _ _ _ _ hxn hyn (hxs.out.up (by go_grown)) (hys.out.up (by go_grown))).mono ?_; rintro r w1 ⟨rfl, hw1⟩; have hB1 : Below w.heap.size w w1 := (((Below.refl _ _).alloc (Nat.le_refl _) _).alloc (by simp) _).trans (hw1.mono (by simp; omega)))
      go_ret
      exact ⟨by rw [E.out]; rfl, hB1⟩
    · have h1' : (x.text.toList == y.text.toList) = false := by rw [b1]; simpa using h1
      have E := hide (show fltEq x y = false by rw [fltEq, decide_eq_false h1]; simp)
      clear h0 h1 b0 b1
      go_enter Tryz.func19, Tryz.ntmps19
      go_wp2_with (fail)
      go_ret
      exact ⟨by rw [E.out]; rfl, by go_grown⟩
  · have h0' : (x.kind.toList == y.kind.toList) = false := by rw [b0]; simpa using h0
    have E := hide (show fltEq x y = false by rw [fltEq, decide_eq_false h0]; simp)
    clear h0 b0 b1
    go_enter Tryz.func19, Tryz.ntmps19
    go_wp2_with (fail)
    go_ret
    exact ⟨by rw [E.out]; rfl, by go_grown⟩
set_option maxRecDepth 100000 in
set_option maxHeartbeats 4000000 in
theorem EqualFunc1_any (A : Option Addr) (n c : Nat) (A' : Option Addr) (n' c' : Nat) (l l' : List FaultT) (w : World) (hn : n ≤ maxLen) (hn' : n' ≤ maxLen) (hl : Sl w w.heap.size FaultT.cs 3 A n l) (hl' : Sl w w.heap.size FaultT.cs 3 A' n' l') (hf : FaultsOk w l) (hf' : FaultsOk w l') :
    Calls Tryz.prog 18 #[.slice A n c, .slice A' n' c', .func (.func 19) #[] #[]] w fun e w' => e = .returned (.bool (fltsEq l l')) ∧ Below w.heap.size w w' := by
  unfold maxLen at hn hn'
  by_cases hnn : n = n'
  · subst hnn
    clear hn'
    have HL := hide hl.len
    have HL' := hide hl'.len
    go_enter Tryz.func18, Tryz.ntmps18
    go_wp2_with (fail)
    go_loopw [17] (fun i wr => ∃ j : Nat, j ≤ n ∧ i = .int .i64 j ∧ ((l.take j).zip (l'.take j)).all (fun p => fltEq p.1 p.2) = true ∧ Below w.heap.size w wr) (fun i _ => n - (intOf i).toNat)
    case atStart => exact ⟨0, Nat.zero_le _, rfl, by simp, Below.refl _ _⟩
    case round =>
      obtain ⟨j, hj, rfl, hall, hB⟩ := hrel
      have HALL := hide hall
      clear hall
      have hz := hB.size
      by_cases hlt : j < n
      · obtain ⟨bb, oo, x, rfl, hbb, hx, hc⟩ := (hl.below hB).at_ hlt
        obtain ⟨bb', oo', x', rfl, hbb', hx', hc'⟩ := (hl'.below hB).at_ hlt
        have c0 := hc 0 _ rfl
        have c1 := hc 1 _ rfl
        have c2 := hc 2 _ rfl
        have d0 := hc' 0 _ rfl
        have d1 := hc' 1 _ rfl
        have d2 := hc' 2 _ rfl
        simp only [Nat.add_zero] at c0 d0
        have HX := hide hx
        have HX' := hide hx'
        have HXO := hide ((hf x (List.mem_of_getElem? hx)).up hB)
        have HXO' := hide ((hf' x' (List.mem_of_getElem? hx')).up hB)
        have HG : Hid (∀ o o' : Obj, Below wr.heap.size wr ((wr.alloc o).alloc o')) := hide fun o o' => ((Below.refl _ _).alloc (Nat.le_refl _) _).alloc (by simp) _
        have CW := hide (fun W h h' => clo1_any x x' W h h')
        clear hc hc' hx hx'
        obtain ⟨e, he⟩ : ∃ e, fltEq x x' = e := ⟨_, rfl⟩
        rw [he] at CW
        have HE := hide he
        clear he
        cases e
        · have E := hide (fltsEq_false HX.out HX'.out HE.out)
          go_wp2_with (go_at_call 19; refine (CW.out _ (HXO.out.up (HG.out _ _)) (HXO'.out.up (HG.out _ _))).mono ?_; rintro r w1 ⟨rfl, hw1⟩; have hB1 : Below w.heap.size w w1 := hB.trans (((HG.out _ _).trans (hw1.mono (by simp; omega))).mono hz))
          go_ret
          exact ⟨by rw [E.out]; rfl, hB1⟩
        · go_wp2_with (go_at_call 19; refine (CW.out _ (HXO.out.up (HG.out _ _)) (HXO'.out.up (HG.out _ _))).mono ?_; rintro r w1 ⟨rfl, hw1⟩; have hB1 : Below w.heap.size w w1 := hB.trans (((HG.out _ _).trans (hw1.mono (by simp; omega))).mono hz))
          go_roundw
          case rel => exact ⟨j + 1, by omega, by go_num, by rw [zip_take_succ HX.out HX'.out, List.all_append, HALL.out]; simpa using HE.out, hB1⟩
          case measure => simp [intOf]; omega
      · have E := hide (show fltsEq l l' = true by have h := HALL.out; rw [take_len l (by have := HL.out; omega), take_len l' (by have := HL'.out; omega)] at h; rw [fltsEq, h, decide_eq_true (by rw [HL.out, HL'.out])]; rfl)
        go_wp2_with (fail)
        go_ret
        exact ⟨by rw [E.out]; rfl, hB⟩
  · have E := hide (show fltsEq l l' = false by rw [fltsEq, decide_eq_false (by rw [hl.len, hl'.len]; exact hnn)]; rfl)
    go_enter Tryz.func18, Tryz.ntmps18
    go_wp2_with (fail)
    go_ret
    exact ⟨by rw [E.out]; rfl, Below.refl _ _⟩
set_option maxHeartbeats 1000000 in
theorem Same_any (A : Option Addr) (n c : Nat) (A' : Option Addr) (n' c' : Nat) (l l' : List FaultT) (w : World) (hn : n ≤ maxLen) (hn' : n' ≤ maxLen) (hl : Sl w w.heap.size FaultT.cs 3 A n l) (hl' : Sl w w.heap.size FaultT.cs 3 A' n' l') (hf : FaultsOk w l) (hf' : FaultsOk w l') :
    Calls Tryz.prog 7 #[.slice A n c, .slice A' n' c'] w fun e w' => e = .returned (.bool (fltsEq l l')) ∧ Below w.heap.size w w' := by
  have C := hide (EqualFunc1_any A n c A' n' c' l l' w hn hn' hl hl' hf hf')
  clear hn hn'
  go_enter Tryz.func7, Tryz.ntmps7
  go_wp2_with (go_at_call 18; refine C.out.mono ?_; rintro r w1 ⟨rfl, hw1⟩)
  go_ret
  exact ⟨rfl, hw1⟩
end Go.Proofs.YtncpeokniffafaaGreatDoor
