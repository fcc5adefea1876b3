/- Rules alike: slices.EqualFunc over two rows of the same rules. -/
import Derived.Test.YtomihkflhhhpjaaDoorGuRa
import Derived.BigQuiet
namespace Go.Proofs.YtomihkflhhhpjaaDoor
open Go.RowKit
set_option linter.unusedVariables false
set_option linter.unusedSimpArgs false
set_option maxRecDepth 100000 in
set_option maxHeartbeats 4000000 in
theorem EqM_any (A A' : Option Addr) (n c c' : Nat) (ms : List Mt) (w : World) (hn : n ≤ maxLen) (h : Sl w w.heap.size Mt.cs 3 A n ms) (h' : Sl w w.heap.size Mt.cs 3 A' n ms) :
    Calls Tryd.prog 20 #[.slice A n c, .slice A' n c'] w fun e w' => e = .returned (.bool true) ∧ Below w.heap.size w w' := by
  have HS := hide h
  have HS' := hide h'
  clear h h'
  unfold maxLen at hn
  go_enter Tryd.func20, Tryd.ntmps20
  go_wp2_with (fail)
  go_loopw [13] (fun i wr => ∃ j : Nat, j ≤ n ∧ i = .int .i64 j ∧ Below w.heap.size w wr) (fun i _ => n - (intOf i).toNat)
  case atStart => exact ⟨0, Nat.zero_le _, rfl, Below.refl _ _⟩
  case round =>
    obtain ⟨j, hj, rfl, hB⟩ := hrel
    have HB := hide hB
    have hz := hB.size
    by_cases hlt : j < n
    · obtain ⟨bb, oo, x, rfl, hbb, hx, hc⟩ := (HS.out.up hB).at_ hlt
      obtain ⟨bb', oo', y, rfl, hbb', hx', hc'⟩ := (HS'.out.up hB).at_ hlt
      obtain rfl : x = y := by rw [hx] at hx'; exact Option.some.inj hx'
      have c0 : wr.cell? ⟨bb, oo + j * 3, none⟩ = some (.int .i64 x.on) := by simpa using hc 0 _ rfl
      have c1 : wr.cell? ⟨bb, oo + j * 3 + 1, none⟩ = some (.bool x.no) := hc 1 _ rfl
      have c2 : wr.cell? ⟨bb, oo + j * 3 + 2, none⟩ = some (.string x.glob) := hc 2 _ rfl
      have d0 : wr.cell? ⟨bb', oo' + j * 3, none⟩ = some (.int .i64 x.on) := by simpa using hc' 0 _ rfl
      have d1 : wr.cell? ⟨bb', oo' + j * 3 + 1, none⟩ = some (.bool x.no) := hc' 1 _ rfl
      have d2 : wr.cell? ⟨bb', oo' + j * 3 + 2, none⟩ = some (.string x.glob) := hc' 2 _ rfl
      have hjn : (j : Int) < (n : Int) := by omega
      clear hc hc' hx hx' hB
      go_wp2_with (first | go_quiet (fail))
      go_roundw
      case rel => exact ⟨j + 1, hlt, by go_num, by first | exact HB.out | exact below_drewN HB.out _⟩
      case measure => simp [intOf]; omega
    · obtain rfl : j = n := by omega
      go_wp2_with (fail)
      go_ret
      exact ⟨rfl, HB.out⟩
set_option maxRecDepth 100000 in
set_option maxHeartbeats 4000000 in
theorem EqA_any (A A' : Option Addr) (n c c' : Nat) (ms : List Ac) (w : World) (hn : n ≤ maxLen) (h : Sl w w.heap.size Ac.cs 3 A n ms) (h' : Sl w w.heap.size Ac.cs 3 A' n ms) :
    Calls Tryd.prog 21 #[.slice A n c, .slice A' n c'] w fun e w' => e = .returned (.bool true) ∧ Below w.heap.size w w' := by
  have HS := hide h
  have HS' := hide h'
  clear h h'
  unfold maxLen at hn
  go_enter Tryd.func21, Tryd.ntmps21
  go_wp2_with (fail)
  go_loopw [13] (fun i wr => ∃ j : Nat, j ≤ n ∧ i = .int .i64 j ∧ Below w.heap.size w wr) (fun i _ => n - (intOf i).toNat)
  case atStart => exact ⟨0, Nat.zero_le _, rfl, Below.refl _ _⟩
  case round =>
    obtain ⟨j, hj, rfl, hB⟩ := hrel
    have HB := hide hB
    have hz := hB.size
    by_cases hlt : j < n
    · obtain ⟨bb, oo, x, rfl, hbb, hx, hc⟩ := (HS.out.up hB).at_ hlt
      obtain ⟨bb', oo', y, rfl, hbb', hx', hc'⟩ := (HS'.out.up hB).at_ hlt
      obtain rfl : x = y := by rw [hx] at hx'; exact Option.some.inj hx'
      have c0 : wr.cell? ⟨bb, oo + j * 3, none⟩ = some (.int .i64 x.dd) := by simpa using hc 0 _ rfl
      have c1 : wr.cell? ⟨bb, oo + j * 3 + 1, none⟩ = some (.int .i64 x.n) := hc 1 _ rfl
      have c2 : wr.cell? ⟨bb, oo + j * 3 + 2, none⟩ = some (.string x.text) := hc 2 _ rfl
      have d0 : wr.cell? ⟨bb', oo' + j * 3, none⟩ = some (.int .i64 x.dd) := by simpa using hc' 0 _ rfl
      have d1 : wr.cell? ⟨bb', oo' + j * 3 + 1, none⟩ = some (.int .i64 x.n) := hc' 1 _ rfl
      have d2 : wr.cell? ⟨bb', oo' + j * 3 + 2, none⟩ = some (.string x.text) := hc' 2 _ rfl
      have hjn : (j : Int) < (n : Int) := by omega
      clear hc hc' hx hx' hB
      go_wp2_with (first | go_quiet (fail))
      go_roundw
      case rel => exact ⟨j + 1, hlt, by go_num, by first | exact HB.out | exact below_drewN HB.out _⟩
      case measure => simp [intOf]; omega
    · obtain rfl : j = n := by omega
      go_wp2_with (fail)
      go_ret
      exact ⟨rfl, HB.out⟩
set_option maxRecDepth 100000 in
set_option maxHeartbeats 4000000 in
theorem cloR (x y : Rul) (w : World) (hx : x.ok w) (hy : y.ok w) (hp : x.pr = y.pr) :
    Calls Tryd.prog 19 #[.agg #[.slice x.A x.n x.c, .slice x.A2 x.n2 x.c2], .agg #[.slice y.A y.n y.c, .slice y.A2 y.n2 y.c2]] w fun e w' => e = .returned (.bool true) ∧ Below w.heap.size w w' := by
  obtain ⟨A, n, c, ms, A2, n2, c2, ac⟩ := x
  obtain ⟨A', n', c', ms', A2', n2', c2', ac'⟩ := y
  have hm : ms = ms' := congrArg Prod.fst hp
  have ha : ac = ac' := congrArg Prod.snd hp
  subst hm ha
  have e1 : n = n' := hx.sl.len.symm.trans hy.sl.len
  have e2 : n2 = n2' := hx.sl2.len.symm.trans hy.sl2.len
  subst e1 e2
  have HX := hide hx
  have HY := hide hy
  have HB : Hid (∀ o o' : Obj, Below w.heap.size w ((w.alloc o).alloc o')) := hide fun o o' => ((Below.refl _ _).alloc (Nat.le_refl _) _).alloc (by simp) _
  have hn1 := hx.nl
  have hn2 := hx.nl2
  simp only at hn1 hn2
  clear hx hy hp
  go_enter Tryd.func19, Tryd.ntmps19
  go_wp2_with (fail)
  refine (EqM_any _ _ _ _ _ ms _ hn1 (Sl.up HX.out.sl (HB.out _ _)) (Sl.up HY.out.sl (HB.out _ _))).mono ?_
  rintro e w1 ⟨rfl, hw1⟩
  have HB1 := hide ((HB.out (.cells #[.slice A n c, .slice A2 n2 c2] 44) (.cells #[.slice A' n c', .slice A2' n2 c2'] 44)).trans (hw1.mono (by simp; omega)))
  have hx := block_below (block_below (heap_alloc_new w (.cells #[.slice A n c, .slice A2 n2 c2] 44)) ((Below.refl _ _).alloc (Nat.le_refl _) (.cells #[.slice A' n c', .slice A2' n2 c2'] 44))) hw1
  have hy := block_below (heap_alloc_new (w.alloc (.cells #[.slice A n c, .slice A2 n2 c2] 44)) (.cells #[.slice A' n c', .slice A2' n2 c2'] 44)) hw1
  have hz1 : (w.alloc (.cells #[.slice A n c, .slice A2 n2 c2] 44)).heap.size = w.heap.size + 1 := by simp
  rw [hz1] at hy
  have x1 : w1.cell? ⟨w.heap.size, 1, none⟩ = some (.slice A2 n2 c2) := (block_cell hx 1).trans rfl
  have y1 : w1.cell? ⟨w.heap.size + 1, 1, none⟩ = some (.slice A2' n2 c2') := (block_cell hy 1).trans rfl
  clear hx hy hw1 hz1
  have CA := hide (EqA_any A2 A2' n2 c2 c2' ac w1 hn2 (Sl.up HX.out.sl2 HB1.out) (Sl.up HY.out.sl2 HB1.out))
  go_wp2_with (fail)
  refine CA.out.mono ?_
  rintro e w2 ⟨rfl, hw2⟩
  have HB2 := hide (HB1.out.trans (hw2.mono HB1.out.size))
  clear hw2
  go_wp2_with (fail)
  go_ret
  exact ⟨rfl, HB2.out⟩
set_option maxRecDepth 100000 in
set_option maxHeartbeats 4000000 in
theorem EqR_any (A A' : Option Addr) (n c c' : Nat) (xs ys : List Rul) (w : World) (hn : n ≤ 1000000) (h : Sl w w.heap.size Rul.cs 2 A n xs) (h' : Sl w w.heap.size Rul.cs 2 A' n ys) (hok : RulesOk w xs) (hok' : RulesOk w ys) (hp : xs.map Rul.pr = ys.map Rul.pr) :
    Calls Tryd.prog 18 #[.slice A n c, .slice A' n c', .func (.func 19) #[] #[]] w fun e w' => e = .returned (.bool true) ∧ Below w.heap.size w w' := by
  have HS := hide h
  have HS' := hide h'
  have HAL := hide (show ∀ (j : Nat) (x y : Rul), xs[j]? = some x → ys[j]? = some y → x.ok w ∧ y.ok w ∧ x.pr = y.pr from fun j x y hx hy => by
    refine ⟨hok x (List.mem_of_getElem? hx), hok' y (List.mem_of_getElem? hy), ?_⟩
    have h9 := congrArg (fun l => l[j]?) hp
    simp only [List.getElem?_map, hx, hy] at h9
    exact Option.some.inj h9)
  clear h h' hok hok' hp
  go_enter Tryd.func18, Tryd.ntmps18
  go_wp2_with (fail)
  go_loopw [17] (fun i wr => ∃ j : Nat, j ≤ n ∧ i = .int .i64 j ∧ Below w.heap.size w wr) (fun i _ => n - (intOf i).toNat)
  case atStart => exact ⟨0, Nat.zero_le _, rfl, Below.refl _ _⟩
  case round =>
    obtain ⟨j, hj, rfl, hB⟩ := hrel
    have HB := hide hB
    have hz := hB.size
    by_cases hlt : j < n
    · obtain ⟨bb, oo, x, rfl, hbb, hx, hc⟩ := (HS.out.below hB).at_ hlt
      obtain ⟨bb', oo', y, rfl, hbb', hx', hc'⟩ := (HS'.out.below hB).at_ hlt
      obtain ⟨ox, oy, pxy⟩ := HAL.out j x y hx hx'
      have c0 : wr.cell? ⟨bb, oo + j * 2, none⟩ = some (.slice x.A x.n x.c) := by simpa using hc 0 _ rfl
      have c1 : wr.cell? ⟨bb, oo + j * 2 + 1, none⟩ = some (.slice x.A2 x.n2 x.c2) := hc 1 _ rfl
      have d0 : wr.cell? ⟨bb', oo' + j * 2, none⟩ = some (.slice y.A y.n y.c) := by simpa using hc' 0 _ rfl
      have d1 : wr.cell? ⟨bb', oo' + j * 2 + 1, none⟩ = some (.slice y.A2 y.n2 y.c2) := hc' 1 _ rfl
      have HG : Hid (∀ o o' : Obj, Below wr.heap.size wr ((wr.alloc o).alloc o')) := hide fun o o' => ((Below.refl _ _).alloc (Nat.le_refl _) _).alloc (by simp) _
      have HX := hide (ox.up hB)
      have HY := hide (oy.up hB)
      have CW := hide (fun W (hx : x.ok W) (hy : y.ok W) => cloR x y W hx hy pxy)
      have hjn : (j : Int) < (n : Int) := by omega
      clear hc hc' hx hx' hB ox oy pxy
      go_wp2_with (fail)
      refine (CW.out _ (HX.out.up (HG.out _ _)) (HY.out.up (HG.out _ _))).mono ?_
      rintro e w1 ⟨rfl, hw1⟩
      have HB1 := hide (HB.out.trans (((HG.out _ _).trans (hw1.mono (by simp; omega))).mono hz))
      clear hw1
      go_wp2_with (fail)
      go_roundw
      case rel => exact ⟨j + 1, by omega, by go_num, HB1.out⟩
      case measure => simp [intOf]; omega
    · have hjn : ¬ (j : Int) < (n : Int) := by omega
      clear hB
      go_wp2_with (fail)
      go_ret
      exact ⟨rfl, HB.out⟩
set_option maxHeartbeats 4000000 in
theorem sameRules_any (A A' : Option Addr) (n c c' : Nat) (xs ys : List Rul) (w : World) (hn : n ≤ 1000000) (h : Sl w w.heap.size Rul.cs 2 A n xs) (h' : Sl w w.heap.size Rul.cs 2 A' n ys) (hok : RulesOk w xs) (hok' : RulesOk w ys) (hp : xs.map Rul.pr = ys.map Rul.pr) :
    Calls Tryd.prog 7 #[.slice A n c, .slice A' n c'] w fun e w' => e = .returned (.bool true) ∧ Below w.heap.size w w' := by
  have HC := hide (EqR_any A A' n c c' xs ys w hn h h' hok hok' hp)
  clear h h' hok hok' hp
  go_enter Tryd.func7, Tryd.ntmps7
  go_wp2_with (go_at_call 18; refine HC.out.mono ?_; rintro e w1 ⟨rfl, hw1⟩; have HB1 := hide hw1; clear hw1)
  go_ret
  exact ⟨rfl, HB1.out⟩
end Go.Proofs.YtomihkflhhhpjaaDoor
