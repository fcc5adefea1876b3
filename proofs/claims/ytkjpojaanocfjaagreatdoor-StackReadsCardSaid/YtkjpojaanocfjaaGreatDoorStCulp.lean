/- Walks of Shared, SharedOf, call, nameOf, Culprit, CulpritOf (printed by gen_cu.py). -/
import Derived.Test.YtkjpojaanocfjaaGreatDoorStFault
import Derived.Test.YtkjpojaanocfjaaGreatDoorStEqB
import Derived.BigQuiet
namespace Go.Proofs.YtkjpojaanocfjaaGreatDoor
open Go.RowKit
set_option linter.unusedVariables false
/-- How many of the last elements of two lists are equal. -/
def sharedFrom (a b : List Frame) : Nat → Nat → Nat
  | 0, k => k
  | f + 1, k => if k < a.length ∧ k < b.length ∧ a[a.length - 1 - k]? = b[b.length - 1 - k]? then sharedFrom a b f (k + 1) else k
def sharedN (a b : List Frame) : Nat := sharedFrom a b a.length 0
theorem sharedFrom_step {a b : List Frame} {f k : Nat} (h : k < a.length ∧ k < b.length ∧ a[a.length - 1 - k]? = b[b.length - 1 - k]?) (hf : a.length - k ≤ f) : sharedFrom a b f k = sharedFrom a b (f - 1) (k + 1) := by
  cases f with
  | zero => omega
  | succ f => rw [sharedFrom, if_pos h]; rfl
theorem sharedFrom_stop {a b : List Frame} {f k : Nat} (h : ¬ (k < a.length ∧ k < b.length ∧ a[a.length - 1 - k]? = b[b.length - 1 - k]?)) : sharedFrom a b f k = k := by
  cases f with
  | zero => rfl
  | succ f => rw [sharedFrom, if_neg h]
/-- The first part of a frame's line. -/
def callB (x : Frame) : ByteArray := if emptyB x.mod then x.fn else x.mod ++ ⟨#[33]⟩ ++ x.fn
set_option maxRecDepth 100000 in
set_option maxHeartbeats 4000000 in
theorem Shared_any (A : Option Addr) (n c : Nat) (A' : Option Addr) (n' c' : Nat) (l l' : List Frame) (w : World) (hn : n ≤ maxLen) (hn' : n' ≤ maxLen) (hl : Sl w w.heap.size Frame.cs 6 A n l) (hl' : Sl w w.heap.size Frame.cs 6 A' n' l') :
    Calls Tryz.prog 65 #[.slice A n c, .slice A' n' c'] w fun e w' => e = .returned (.int .i64 (sharedN l l')) ∧ Below w.heap.size w w' := by
  unfold maxLen at hn hn'
  have HL := hide hl.len
  have HL' := hide hl'.len
  go_enter Tryz.func65, Tryz.ntmps65
  go_wp2_with (fail)
  go_loopw [5] (fun i wr => ∃ j : Nat, j ≤ n ∧ j ≤ n' ∧ i = .int .i64 j ∧ sharedN l l' = sharedFrom l l' (l.length - j) j ∧ Below w.heap.size w wr) (fun i _ => n - (intOf i).toNat)
  case atStart => exact ⟨0, Nat.zero_le _, Nat.zero_le _, rfl, rfl, Below.refl _ _⟩
  case round =>
    obtain ⟨j, hj, hj', rfl, hsh, hB⟩ := hrel
    have HSH := hide hsh
    clear hsh
    by_cases hlt : j < n
    · by_cases hlt' : j < n'
      · have hm : n - 1 - j < n := by omega
        have hm' : n' - 1 - j < n' := by omega
        obtain ⟨bb, oo, x, rfl, hbb, hx, hc⟩ := (hl.below hB).at_ hm
        obtain ⟨bb', oo', x', rfl, hbb', hx', hc'⟩ := (hl'.below hB).at_ hm'
        obtain ⟨p, hp⟩ : ∃ p : Nat, n - 1 - j = p := ⟨_, rfl⟩
        obtain ⟨p', hp'⟩ : ∃ p' : Nat, n' - 1 - j = p' := ⟨_, rfl⟩
        have hpi : (n : Int) - 1 - (j : Int) = (p : Int) := by omega
        have hpi' : (n' : Int) - 1 - (j : Int) = (p' : Int) := by omega
        rw [hp] at hx hc hm
        rw [hp'] at hx' hc' hm'
        have c0 := hc 0 _ rfl
        have c1 := hc 1 _ rfl
        have c2 := hc 2 _ rfl
        have c3 := hc 3 _ rfl
        have c4 := hc 4 _ rfl
        have c5 := hc 5 _ rfl
        have d0 := hc' 0 _ rfl
        have d1 := hc' 1 _ rfl
        have d2 := hc' 2 _ rfl
        have d3 := hc' 3 _ rfl
        have d4 := hc' 4 _ rfl
        have d5 := hc' 5 _ rfl
        simp only [Nat.add_zero] at c0 d0
        have HX := hide hx
        have HX' := hide hx'
        have HP := hide hp
        have HP' := hide hp'
        clear hc hc' hx hx' hp hp'
        by_cases hxx : x = x'
        · subst hxx
          have HST := hide (show j < l.length ∧ j < l'.length ∧ l[l.length - 1 - j]? = l'[l'.length - 1 - j]? from ⟨by rw [HL.out]; exact hlt, by rw [HL'.out]; exact hlt', by rw [HL.out, HL'.out, HP.out, HP'.out, HX.out, HX'.out]⟩)
          go_wp2_with (go_quiet (fail))
          go_roundw
          case rel => exact ⟨j + 1, by omega, by omega, by go_num, by rw [HSH.out, sharedFrom_step HST.out (by omega), Nat.sub_sub], by first | exact hB | exact below_drewN hB _⟩
          case measure => simp [intOf]; omega
        · have HE := hide (show sharedN l l' = j from HSH.out.trans (sharedFrom_stop (fun h => hxx (by have := h.2.2; rw [HL.out, HL'.out, HP.out, HP'.out, HX.out, HX'.out] at this; exact Option.some.inj this))))
          have HF := frame_first hxx
          clear hxx
          rcases HF with f0 | ⟨f0, f1⟩ | ⟨f0, f1, f2⟩ | ⟨f0, f1, f2, f3⟩ | ⟨f0, f1, f2, f3, f4⟩ | ⟨f0, f1, f2, f3, f4, f5⟩
          all_goals
            go_wp2_with (go_quiet (fail))
            go_ret
            exact ⟨by rw [HE.out]; rfl, by first | exact hB | exact below_drewN hB _⟩
      · have HE := hide (show sharedN l l' = j from HSH.out.trans (sharedFrom_stop (fun h => hlt' (by have := h.2.1; rw [HL'.out] at this; exact this))))
        have hd : decide (j < n) = true := by simpa using hlt
        have hd' : decide (j < n') = false := by simpa using hlt'
        go_wp2_with (go_quiet (fail))
        go_ret
        exact ⟨by rw [HE.out]; rfl, by first | exact hB | exact below_drewN hB _⟩
    · have HE := hide (show sharedN l l' = j from HSH.out.trans (sharedFrom_stop (fun h => hlt (by have := h.1; rw [HL.out] at this; exact this))))
      have hd : decide (j < n) = false := by simpa using hlt
      go_wp2_with (go_quiet (fail))
      go_ret
      exact ⟨by rw [HE.out]; rfl, by first | exact hB | exact below_drewN hB _⟩
set_option maxRecDepth 100000 in
set_option maxHeartbeats 4000000 in
theorem SharedOf_any (A : Option Addr) (n c : Nat) (A' : Option Addr) (n' c' : Nat) (l l' : List Frame) (w : World) (hn : n ≤ maxLen) (hn' : n' ≤ maxLen) (hl : Sl w w.heap.size Frame.cs 6 A n l) (hl' : Sl w w.heap.size Frame.cs 6 A' n' l') :
    Calls Tryz.prog 33 #[.slice A n c, .slice A' n' c'] w fun e w' => e = .returned (.int .i64 (sharedN l l')) ∧ Below w.heap.size w w' := by
  unfold maxLen at hn hn'
  have HL := hide hl.len
  have HL' := hide hl'.len
  go_enter Tryz.func33, Tryz.ntmps33
  go_wp2_with (fail)
  go_loopw [5] (fun i wr => ∃ j : Nat, j ≤ n ∧ j ≤ n' ∧ i = .int .i64 j ∧ sharedN l l' = sharedFrom l l' (l.length - j) j ∧ Below w.heap.size w wr) (fun i _ => n - (intOf i).toNat)
  case atStart => exact ⟨0, Nat.zero_le _, Nat.zero_le _, rfl, rfl, Below.refl _ _⟩
  case round =>
    obtain ⟨j, hj, hj', rfl, hsh, hB⟩ := hrel
    have HSH := hide hsh
    clear hsh
    by_cases hlt : j < n
    · by_cases hlt' : j < n'
      · have hm : n - 1 - j < n := by omega
        have hm' : n' - 1 - j < n' := by omega
        obtain ⟨bb, oo, x, rfl, hbb, hx, hc⟩ := (hl.below hB).at_ hm
        obtain ⟨bb', oo', x', rfl, hbb', hx', hc'⟩ := (hl'.below hB).at_ hm'
        obtain ⟨p, hp⟩ : ∃ p : Nat, n - 1 - j = p := ⟨_, rfl⟩
        obtain ⟨p', hp'⟩ : ∃ p' : Nat, n' - 1 - j = p' := ⟨_, rfl⟩
        have hpi : (n : Int) - 1 - (j : Int) = (p : Int) := by omega
        have hpi' : (n' : Int) - 1 - (j : Int) = (p' : Int) := by omega
        rw [hp] at hx hc hm
        rw [hp'] at hx' hc' hm'
        have c0 := hc 0 _ rfl
        have c1 := hc 1 _ rfl
        have c2 := hc 2 _ rfl
        have c3 := hc 3 _ rfl
        have c4 := hc 4 _ rfl
        have c5 := hc 5 _ rfl
        have d0 := hc' 0 _ rfl
        have d1 := hc' 1 _ rfl
        have d2 := hc' 2 _ rfl
        have d3 := hc' 3 _ rfl
        have d4 := hc' 4 _ rfl
        have d5 := hc' 5 _ rfl
        simp only [Nat.add_zero] at c0 d0
        have HX := hide hx
        have HX' := hide hx'
        have HP := hide hp
        have HP' := hide hp'
        clear hc hc' hx hx' hp hp'
        by_cases hxx : x = x'
        · subst hxx
          have HST := hide (show j < l.length ∧ j < l'.length ∧ l[l.length - 1 - j]? = l'[l'.length - 1 - j]? from ⟨by rw [HL.out]; exact hlt, by rw [HL'.out]; exact hlt', by rw [HL.out, HL'.out, HP.out, HP'.out, HX.out, HX'.out]⟩)
          go_wp2_with (go_quiet (fail))
          go_roundw
          case rel => exact ⟨j + 1, by omega, by omega, by go_num, by rw [HSH.out, sharedFrom_step HST.out (by omega), Nat.sub_sub], by first | exact hB | exact below_drewN hB _⟩
          case measure => simp [intOf]; omega
        · have HE := hide (show sharedN l l' = j from HSH.out.trans (sharedFrom_stop (fun h => hxx (by have := h.2.2; rw [HL.out, HL'.out, HP.out, HP'.out, HX.out, HX'.out] at this; exact Option.some.inj this))))
          have HF := frame_first hxx
          clear hxx
          rcases HF with f0 | ⟨f0, f1⟩ | ⟨f0, f1, f2⟩ | ⟨f0, f1, f2, f3⟩ | ⟨f0, f1, f2, f3, f4⟩ | ⟨f0, f1, f2, f3, f4, f5⟩
          all_goals
            go_wp2_with (go_quiet (fail))
            go_ret
            exact ⟨by rw [HE.out]; rfl, by first | exact hB | exact below_drewN hB _⟩
      · have HE := hide (show sharedN l l' = j from HSH.out.trans (sharedFrom_stop (fun h => hlt' (by have := h.2.1; rw [HL'.out] at this; exact this))))
        have hd : decide (j < n) = true := by simpa using hlt
        have hd' : decide (j < n') = false := by simpa using hlt'
        go_wp2_with (go_quiet (fail))
        go_ret
        exact ⟨by rw [HE.out]; rfl, by first | exact hB | exact below_drewN hB _⟩
    · have HE := hide (show sharedN l l' = j from HSH.out.trans (sharedFrom_stop (fun h => hlt (by have := h.1; rw [HL.out] at this; exact this))))
      have hd : decide (j < n) = false := by simpa using hlt
      go_wp2_with (go_quiet (fail))
      go_ret
      exact ⟨by rw [HE.out]; rfl, by first | exact hB | exact below_drewN hB _⟩
def framesOf (l : List FaultT) : List Frame := l.flatMap fun f => f.frs
/-- The function that is to blame. -/
def culpritB (l : List FaultT) : ByteArray :=
  match (framesOf l).find? (fun x => x.own) with
  | some x => callB x
  | none => match (framesOf l).head? with | some x => callB x | none => ByteArray.empty
def NoOwn (l : List Frame) : Prop := ∀ x ∈ l, x.own = false
theorem framesOf_split {l : List FaultT} {k : Nat} {x : FaultT} (hx : l[k]? = some x) : framesOf l = framesOf (l.take k) ++ (x.frs ++ framesOf (l.drop (k + 1))) := by
  have hk : k < l.length := (List.getElem?_eq_some_iff.1 hx).1
  have e : l = l.take k ++ x :: l.drop (k + 1) := by
    have h2 : l.drop k = x :: l.drop (k + 1) := by
      rw [List.drop_eq_getElem_cons hk]; congr 1; rw [List.getElem?_eq_getElem hk] at hx; exact Option.some.inj hx
    rw [← h2, List.take_append_drop]
  conv => lhs; rw [e]
  simp [framesOf]
theorem find_none {l : List Frame} (h : NoOwn l) : l.find? (fun x => x.own) = none := by
  rw [List.find?_eq_none]; intro x hx; rw [h x hx]; decide
theorem culpritB_own {l : List FaultT} {k j : Nat} {x : FaultT} {y : Frame} (hx : l[k]? = some x) (h0 : NoOwn (framesOf (l.take k))) (hy : x.frs[j]? = some y) (h1 : NoOwn (x.frs.take j)) (ho : y.own = true) : culpritB l = callB y := by
  have hj : j < x.frs.length := (List.getElem?_eq_some_iff.1 hy).1
  have e : x.frs = x.frs.take j ++ y :: x.frs.drop (j + 1) := by
    have h2 : x.frs.drop j = y :: x.frs.drop (j + 1) := by
      rw [List.drop_eq_getElem_cons hj]; congr 1; rw [List.getElem?_eq_getElem hj] at hy; exact Option.some.inj hy
    rw [← h2, List.take_append_drop]
  have hf : (framesOf l).find? (fun x => x.own) = some y := by
    rw [framesOf_split hx, List.find?_append, find_none h0, Option.none_or, e, List.append_assoc, List.find?_append, find_none h1, Option.none_or, List.cons_append, List.find?_cons_of_pos ho]
  rw [culpritB, hf]
theorem culpritB_first {l : List FaultT} {k : Nat} {x : FaultT} {y : Frame} (h : NoOwn (framesOf l)) (hx : l[k]? = some x) (h0 : framesOf (l.take k) = []) (hy : x.frs[0]? = some y) : culpritB l = callB y := by
  have hf : (framesOf l).head? = some y := by
    rw [framesOf_split hx, h0, List.nil_append, List.head?_append]
    rw [← List.head?_eq_getElem?] at hy
    rw [hy]; rfl
  rw [culpritB, find_none h, hf]
theorem culpritB_none {l : List FaultT} (h0 : framesOf l = []) : culpritB l = ByteArray.empty := by rw [culpritB, h0]; rfl
theorem noOwn_snoc {l : List Frame} {j : Nat} {y : Frame} (h : NoOwn (l.take j)) (hy : l[j]? = some y) (ho : y.own = false) : NoOwn (l.take (j + 1)) := by
  intro z hz
  rw [take_succ_get hy, List.mem_append, List.mem_singleton] at hz
  rcases hz with hz | rfl
  · exact h z hz
  · exact ho
theorem framesOf_snoc {l : List FaultT} {k : Nat} {x : FaultT} (hx : l[k]? = some x) : framesOf (l.take (k + 1)) = framesOf (l.take k) ++ x.frs := by rw [take_succ_get hx]; simp [framesOf]
theorem noOwn_more {l : List FaultT} {k : Nat} {x : FaultT} (h : NoOwn (framesOf (l.take k))) (hx : l[k]? = some x) (h1 : NoOwn x.frs) : NoOwn (framesOf (l.take (k + 1))) := by
  rw [framesOf_snoc hx]
  intro z hz
  rcases List.mem_append.1 hz with hz | hz
  · exact h z hz
  · exact h1 z hz
/-- Short names, as frames without an error have them. -/
def ShortF (l : List FaultT) : Prop := ∀ f ∈ l, ∀ y ∈ f.frs, y.mod.size ≤ 200 ∧ y.fn.size ≤ 200
end Go.Proofs.YtkjpojaanocfjaaGreatDoor
