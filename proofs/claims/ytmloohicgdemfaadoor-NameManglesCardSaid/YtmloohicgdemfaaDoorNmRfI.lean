/- The reference's mangler: the look for a type in its list (IndexFunc with its closure). -/
import Derived.Test.YtmloohicgdemfaaDoorNmMgB
import Derived.Test.YtmloohicgdemfaaDoorNmSame
namespace Go.Proofs.YtmloohicgdemfaaDoor
open Go.RowKit
set_option linter.unusedVariables false
set_option linter.unusedSimpArgs false
theorem plc_first {d : List Ty} {t y : Ty} {j : Nat} (h : d[j]? = some y) (hs : same y t = true) (hno : ∀ i, i < j → ∀ x, d[i]? = some x → same x t = false) : plc d t = some j := by
  unfold plc
  obtain ⟨hj, rfl⟩ := List.getElem?_eq_some_iff.1 h
  exact List.findIdx?_eq_some_iff_getElem.2 ⟨hj, hs, fun i hi => by simpa using hno i hi _ (List.getElem?_eq_getElem (by omega))⟩
theorem plc_never {d : List Ty} {t : Ty} (hno : ∀ i, i < d.length → ∀ x, d[i]? = some x → same x t = false) : plc d t = none := by
  unfold plc
  rw [List.findIdx?_eq_none_iff]
  intro x hx
  obtain ⟨i, hi, rfl⟩ := List.mem_iff_getElem.1 hx
  exact hno i hi _ (List.getElem?_eq_getElem hi)
noncomputable def plcI (d : List Ty) (t : Ty) : Int := match plc d t with | some j => (j : Int) | none => -1
set_option maxRecDepth 100000 in
set_option maxHeartbeats 4000000 in
theorem one1_any (k : Nat) (x t : Ty) (cx ct : List Value) (tb : Nat) (w : World) (hx : TyIn w w.heap.size k x cx) (ht : TyIn w w.heap.size k t ct) (htb : w.heap[tb]? = some (.cells ct.toArray 64 (0, 0))) :
    Calls Tryd.prog 33 #[.agg cx.toArray, .pointer (some ⟨tb, 0, none⟩)] w fun e w' => e = .returned (.bool (same x t)) ∧ Below w.heap.size w w' := by
  have HA := hide ((Below.refl w.heap.size w).alloc (Nat.le_refl _) (.cells cx.toArray 64))
  have HC := hide (rAll k x t cx ct (w.alloc (.cells cx.toArray 64)) (hx.up HA.out) (ht.up HA.out))
  have HT := hide (block_below htb HA.out)
  cases k with
  | zero => exact hx.elim
  | succ k =>
  obtain ⟨A, n, c, A', n', c', rfl, _⟩ := hx
  obtain ⟨A2, n2, c2, A2', n2', c2', rfl, _⟩ := ht
  have x0 : (w.alloc (.cells #[.int .i64 x.kind, .slice A n c, .slice A' n' c'] 64)).cell? ⟨tb, 0, none⟩ = some (.int .i64 t.kind) := block_cell HT.out 0
  have x1 : (w.alloc (.cells #[.int .i64 x.kind, .slice A n c, .slice A' n' c'] 64)).cell? ⟨tb, 1, none⟩ = some (.slice A2 n2 c2) := block_cell HT.out 1
  have x2 : (w.alloc (.cells #[.int .i64 x.kind, .slice A n c, .slice A' n' c'] 64)).cell? ⟨tb, 2, none⟩ = some (.slice A2' n2' c2') := block_cell HT.out 2
  clear htb
  go_enter Tryd.func33, Tryd.ntmps33
  go_wp2_with (go_at_call 34; refine HC.out.mono ?_; rintro e w1 ⟨rfl, hw1⟩; have hB1 := HA.out.trans (hw1.mono HA.out.size))
  go_ret
  exact ⟨rfl, hB1⟩
set_option maxRecDepth 100000 in
set_option maxHeartbeats 4000000 in
theorem IdxT_any (k : Nat) (t : Ty) (ct : List Value) (tb : Nat) (A : Option Addr) (n cap : Nat) (d : List Ty) (w : World) (hn : n ≤ maxLen) (hl : Tys w w.heap.size k A n d) (ht : TyIn w w.heap.size k t ct) (htb : w.heap[tb]? = some (.cells ct.toArray 64 (0, 0))) :
    Calls Tryd.prog 32 #[.slice A n cap, .func (.func 33) #[] #[.pointer (some ⟨tb, 0, none⟩)]] w fun e w' => e = .returned (.int .i64 (plcI d t)) ∧ Below w.heap.size w w' := by
  unfold maxLen at hn
  have HL := hide hl.len
  have HSL := hide hl
  have HT := hide ht
  have HTB := hide htb
  clear hl ht htb
  go_enter Tryd.func32, Tryd.ntmps32
  go_wp2_with (fail)
  go_loopw [8] (fun i wr => ∃ j : Nat, j ≤ n ∧ i = .int .i64 j ∧ (∀ i, i < j → ∀ x, d[i]? = some x → same x t = false) ∧ Below w.heap.size w wr) (fun i _ => n - (intOf i).toNat)
  case atStart => exact ⟨0, Nat.zero_le _, rfl, fun i hi => absurd hi (by omega), Below.refl _ _⟩
  case round =>
    obtain ⟨j, hj, rfl, hno, hB⟩ := hrel
    have HNO := hide hno
    have hz := hB.size
    clear hno
    by_cases hlt : j < n
    · obtain ⟨o, q, y, cs, rfl, hq, hy, hin, hcs⟩ := (tys_up HSL.out hB).at_ hlt
      have C := hide (one1_any k y t cs ct tb wr hin (HT.out.up hB) (block_below HTB.out hB))
      have HY := hide hy
      cases k with
      | zero => exact hin.elim
      | succ k =>
      obtain ⟨A1, n1, cap1, A2, n2, cap2, rfl, _⟩ := hin
      have c0 : wr.cell? ⟨o, q + j * 3, none⟩ = some (.int .i64 y.kind) := by simpa using hcs 0 _ rfl
      have c1 : wr.cell? ⟨o, q + j * 3 + 1, none⟩ = some (.slice A1 n1 cap1) := hcs 1 _ rfl
      have c2 : wr.cell? ⟨o, q + j * 3 + 2, none⟩ = some (.slice A2 n2 cap2) := hcs 2 _ rfl
      obtain ⟨z, hz2⟩ : ∃ z, same y t = z := ⟨_, rfl⟩
      rw [hz2] at C
      have HZ := hide hz2
      clear hcs hy hz2
      cases z
      · go_wp2_with (go_at_call 33; refine C.out.mono ?_; rintro e w1 ⟨rfl, hw1⟩; have hB1 := hB.trans (hw1.mono hB.size))
        go_roundw
        case rel =>
          refine ⟨j + 1, by omega, by go_num, fun i hi x hx => ?_, hB1⟩
          by_cases e : i = j
          · subst e
            rw [HY.out] at hx
            obtain rfl := Option.some.inj hx
            exact HZ.out
          · exact HNO.out i (by omega) x hx
        case measure => simp [intOf]; omega
      · go_wp2_with (go_at_call 33; refine C.out.mono ?_; rintro e w1 ⟨rfl, hw1⟩; have hB1 := hB.trans (hw1.mono hB.size))
        go_ret
        exact ⟨by unfold plcI; rw [plc_first HY.out HZ.out HNO.out]; rfl, hB1⟩
    · obtain rfl : j = n := by omega
      go_wp2_with (fail)
      go_ret
      exact ⟨by unfold plcI; rw [plc_never (fun i hi => HNO.out i (by rw [← HL.out]; exact hi))]; rfl, hB⟩
end Go.Proofs.YtmloohicgdemfaaDoor
