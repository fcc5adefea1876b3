/- Groups alike, steps alike: slices.EqualFunc over two rows. -/
import Derived.Test.YtapfcnfmonknjaaGreatDoorBkEq
import Derived.Test.YtapfcnfmonknjaaGreatDoorGbH
namespace Go.Proofs.YtapfcnfmonknjaaGreatDoor.Bk
open Go.RowKit Go.Maps Go.Sort
set_option linter.unusedVariables false
set_option linter.unusedSimpArgs false
set_option maxRecDepth 100000 in
set_option maxHeartbeats 4000000 in
theorem cloG (x y : Ge) (ps : List (List UInt8)) (w : World) (h : Alike w x y ps) :
    Calls Tryz.prog 18 #[.agg #[.int .i64 x.id, .slice x.A x.n x.c, .int .i64 x.ev, .int .i64 x.wt, .int .i64 x.fi, .int .i64 x.la], .agg #[.int .i64 y.id, .slice y.A y.n y.c, .int .i64 y.ev, .int .i64 y.wt, .int .i64 y.fi, .int .i64 y.la]] w fun e w' => e = .returned (.bool true) ∧ Below w.heap.size w w' := by
  obtain ⟨i, A, n, c, ev, wt, fi, la⟩ := x
  obtain ⟨i', A', n', c', ev', wt', fi', la'⟩ := y
  obtain ⟨h1, h2, h3, h4, h5, h6, h7, h8, h9, h10⟩ := h
  simp only at h1 h2 h3 h4 h5 h6 h7 h8 h9
  subst h1 h2 h3 h4 h5 h6 h7
  have H8 := hide h8
  have H9 := hide h9
  have HB : Hid (∀ o o' : Obj, Below w.heap.size w ((w.alloc o).alloc o')) := hide fun o o' => ((Below.refl _ _).alloc (Nat.le_refl _) _).alloc (by simp) _
  clear h8 h9
  go_enter Tryz.func18, Tryz.ntmps18
  go_wp2_with (fail)
  refine (EqP_any _ _ _ _ _ ps _ (by omega) (Sl.up H8.out (HB.out _ _)) (Sl.up H9.out (HB.out _ _))).mono ?_
  rintro e w1 ⟨rfl, hw1⟩
  have HB1 := hide ((HB.out (.cells #[.int .i64 i, .slice A ps.length c, .int .i64 ev, .int .i64 wt, .int .i64 fi, .int .i64 la] 44) (.cells #[.int .i64 i, .slice A' ps.length c', .int .i64 ev, .int .i64 wt, .int .i64 fi, .int .i64 la] 44)).trans (hw1.mono (by simp; omega)))
  have hx := block_below (block_below (heap_alloc_new w (.cells #[.int .i64 i, .slice A ps.length c, .int .i64 ev, .int .i64 wt, .int .i64 fi, .int .i64 la] 44)) ((Below.refl _ _).alloc (Nat.le_refl _) (.cells #[.int .i64 i, .slice A' ps.length c', .int .i64 ev, .int .i64 wt, .int .i64 fi, .int .i64 la] 44))) hw1
  have hy := block_below (heap_alloc_new (w.alloc (.cells #[.int .i64 i, .slice A ps.length c, .int .i64 ev, .int .i64 wt, .int .i64 fi, .int .i64 la] 44)) (.cells #[.int .i64 i, .slice A' ps.length c', .int .i64 ev, .int .i64 wt, .int .i64 fi, .int .i64 la] 44)) hw1
  have hz1 : (w.alloc (.cells #[.int .i64 i, .slice A ps.length c, .int .i64 ev, .int .i64 wt, .int .i64 fi, .int .i64 la] 44)).heap.size = w.heap.size + 1 := by simp
  rw [hz1] at hy
  have x2 : w1.cell? ⟨w.heap.size, 2, none⟩ = some (.int .i64 ev) := (block_cell hx 2).trans rfl
  have x3 : w1.cell? ⟨w.heap.size, 3, none⟩ = some (.int .i64 wt) := (block_cell hx 3).trans rfl
  have x4 : w1.cell? ⟨w.heap.size, 4, none⟩ = some (.int .i64 fi) := (block_cell hx 4).trans rfl
  have x5 : w1.cell? ⟨w.heap.size, 5, none⟩ = some (.int .i64 la) := (block_cell hx 5).trans rfl
  have y2 : w1.cell? ⟨w.heap.size + 1, 2, none⟩ = some (.int .i64 ev) := (block_cell hy 2).trans rfl
  have y3 : w1.cell? ⟨w.heap.size + 1, 3, none⟩ = some (.int .i64 wt) := (block_cell hy 3).trans rfl
  have y4 : w1.cell? ⟨w.heap.size + 1, 4, none⟩ = some (.int .i64 fi) := (block_cell hy 4).trans rfl
  have y5 : w1.cell? ⟨w.heap.size + 1, 5, none⟩ = some (.int .i64 la) := (block_cell hy 5).trans rfl
  clear hx hy hw1 hz1
  go_wp2_with (fail)
  go_ret
  exact ⟨rfl, HB1.out⟩
set_option maxRecDepth 100000 in
set_option maxHeartbeats 4000000 in
theorem EqGb_any {B B' : Nat} {w : World} {v v' : Value} {l : List Pr} {es es' : List Ge} (h : GrsIn B w v l es) (h' : GrsIn B' w v' l es') (hl : l.length ≤ 1000) :
    Calls Tryz.prog 15 #[v, v', .func (.func 18) #[] #[]] w fun e w' => e = .returned (.bool true) ∧ Below w.heap.size w w' := by
  obtain ⟨hlen, hal⟩ := alike_of h h' hl
  obtain ⟨A, c, rfl, hs, _⟩ := sl_of_own (f := Ge.cs) (fun _ => rfl) rfl h.own
  obtain ⟨A', c', rfl, hs', _⟩ := sl_of_own (f := Ge.cs) (fun _ => rfl) rfl h'.own
  have HS := hide hs
  have HS' := hide hs'
  have HAL := hide hal
  obtain ⟨n, hn⟩ : ∃ n, es.length = n := ⟨_, rfl⟩
  rw [← hlen, hn]
  rw [hn] at HS
  rw [← hlen, hn] at HS'
  have hn1 : n ≤ 100000 := by
    have h1 := len_g h
    omega
  clear h h' hs hs' hal hlen hn
  go_enter Tryz.func15, Tryz.ntmps15
  go_wp2_with (fail)
  go_loopw [17] (fun i wr => ∃ j : Nat, j ≤ n ∧ i = .int .i64 j ∧ Below w.heap.size w wr) (fun i _ => n - (intOf i).toNat)
  case atStart => exact ⟨0, Nat.zero_le _, rfl, Below.refl _ _⟩
  case round =>
    obtain ⟨j, hj, rfl, hB⟩ := hrel
    have HB := hide hB
    have hz := hB.size
    by_cases hlt : j < n
    · obtain ⟨bb, oo, x, rfl, hbb, hx, hc⟩ := (HS.out.below hB).at_ hlt
      obtain ⟨bb', oo', y, rfl, hbb', hx', hc'⟩ := (HS'.out.below hB).at_ hlt
      obtain ⟨ps, hA⟩ := HAL.out j x y hx hx'
      have HA := hide (hA.below hB)
      have c0 : wr.cell? ⟨bb, oo + j * 6, none⟩ = some (.int .i64 x.id) := by simpa using hc 0 _ rfl
      have c1 : wr.cell? ⟨bb, oo + j * 6 + 1, none⟩ = some (.slice x.A x.n x.c) := hc 1 _ rfl
      have c2 : wr.cell? ⟨bb, oo + j * 6 + 2, none⟩ = some (.int .i64 x.ev) := hc 2 _ rfl
      have c3 : wr.cell? ⟨bb, oo + j * 6 + 3, none⟩ = some (.int .i64 x.wt) := hc 3 _ rfl
      have c4 : wr.cell? ⟨bb, oo + j * 6 + 4, none⟩ = some (.int .i64 x.fi) := hc 4 _ rfl
      have c5 : wr.cell? ⟨bb, oo + j * 6 + 5, none⟩ = some (.int .i64 x.la) := hc 5 _ rfl
      have d0 : wr.cell? ⟨bb', oo' + j * 6, none⟩ = some (.int .i64 y.id) := by simpa using hc' 0 _ rfl
      have d1 : wr.cell? ⟨bb', oo' + j * 6 + 1, none⟩ = some (.slice y.A y.n y.c) := hc' 1 _ rfl
      have d2 : wr.cell? ⟨bb', oo' + j * 6 + 2, none⟩ = some (.int .i64 y.ev) := hc' 2 _ rfl
      have d3 : wr.cell? ⟨bb', oo' + j * 6 + 3, none⟩ = some (.int .i64 y.wt) := hc' 3 _ rfl
      have d4 : wr.cell? ⟨bb', oo' + j * 6 + 4, none⟩ = some (.int .i64 y.fi) := hc' 4 _ rfl
      have d5 : wr.cell? ⟨bb', oo' + j * 6 + 5, none⟩ = some (.int .i64 y.la) := hc' 5 _ rfl
      have HG : Hid (∀ o o' : Obj, Below wr.heap.size wr ((wr.alloc o).alloc o')) := hide fun o o' => ((Below.refl _ _).alloc (Nat.le_refl _) _).alloc (by simp) _
      have CW := hide (fun W h => cloG x y ps W h)
      have hjn : (j : Int) < (n : Int) := by omega
      clear hc hc' hx hx' hB hA
      go_wp2_with (fail)
      refine (CW.out _ (HA.out.below (HG.out _ _))).mono ?_
      rintro e w1 ⟨rfl, hw1⟩
      have HB1 := hide (HB.out.trans (((HG.out _ _).trans (hw1.mono (by simp; omega))).mono hz))
      clear hw1
      go_wp2_with (fail)
      go_roundw
      case rel => exact ⟨j + 1, by omega, by go_num, HB1.out⟩
      case measure => simp [intOf]; omega
    · have hjn : ¬ (j : Int) < (n : Int) := by omega
      clear hB
      go_wp2_with (fail)
      go_ret
      exact ⟨rfl, HB.out⟩
/-- Two steps in memory that read alike. -/
structure AlikS (w : World) (x y : Stp) : Prop where
  kind : x.kind = y.kind
  a : x.a = y.a
  b : x.b = y.b
  nx : x.n = x.ps.length
  ny : y.n = x.ps.length
  sx : Sl w w.heap.size se 1 x.A x.ps.length x.ps
  sy : Sl w w.heap.size se 1 y.A x.ps.length x.ps
  len : x.ps.length ≤ 1000
theorem AlikS.below {w w' : World} {x y : Stp} (h : AlikS w x y) (hb : Below w.heap.size w w') : AlikS w' x y := ⟨h.kind, h.a, h.b, h.nx, h.ny, Sl.up h.sx hb, Sl.up h.sy hb, h.len⟩
set_option maxRecDepth 100000 in
set_option maxHeartbeats 4000000 in
theorem cloS (x y : Stp) (w : World) (h : AlikS w x y) :
    Calls Tryz.prog 22 #[.agg #[.int .i64 x.kind, .int .i64 x.a, .int .i64 x.b, .slice x.A x.n x.c], .agg #[.int .i64 y.kind, .int .i64 y.a, .int .i64 y.b, .slice y.A y.n y.c]] w fun e w' => e = .returned (.bool true) ∧ Below w.heap.size w w' := by
  obtain ⟨i, a, b, A, n, c, ps⟩ := x
  obtain ⟨i', a', b', A', n', c', ps'⟩ := y
  obtain ⟨h1, h2, h3, h6, h7, h8, h9, h10⟩ := h
  simp only at h1 h2 h3 h6 h7 h8 h9 h10
  subst h1 h2 h3 h6 h7
  have H8 := hide h8
  have H9 := hide h9
  have HB : Hid (∀ o o' : Obj, Below w.heap.size w ((w.alloc o).alloc o')) := hide fun o o' => ((Below.refl _ _).alloc (Nat.le_refl _) _).alloc (by simp) _
  clear h8 h9
  go_enter Tryz.func22, Tryz.ntmps22
  go_wp2_with (fail)
  refine (EqP_any _ _ _ _ _ ps _ (by omega) (Sl.up H8.out (HB.out _ _)) (Sl.up H9.out (HB.out _ _))).mono ?_
  rintro e w1 ⟨rfl, hw1⟩
  have HB1 := hide ((HB.out (.cells #[.int .i64 i, .int .i64 a, .int .i64 b, .slice A ps.length c] 49) (.cells #[.int .i64 i, .int .i64 a, .int .i64 b, .slice A' ps.length c'] 49)).trans (hw1.mono (by simp; omega)))
  clear hw1
  go_wp2_with (fail)
  go_ret
  exact ⟨rfl, HB1.out⟩
theorem alikS_of {B B' : Nat} {w : World} {v v' : Value} {es es' : List Stp} (hp : ∀ s ∈ es, w.ownsRow B 9 1 s.sl s.ps.length (s.ps.map encStr)) (hp' : ∀ s ∈ es', w.ownsRow B' 9 1 s.sl s.ps.length (s.ps.map encStr))
    (hk : es.map Stp.key = es'.map Stp.key) (hl : ∀ s ∈ es, s.ps.length ≤ 1000) : es.length = es'.length ∧ ∀ (j : Nat) x y, es[j]? = some x → es'[j]? = some y → AlikS w x y := by
  refine ⟨by have := congrArg List.length hk; simpa using this, fun j x y hx hy => ?_⟩
  have e1 : (es.map Stp.key)[j]? = (es'.map Stp.key)[j]? := by rw [hk]
  rw [List.getElem?_map, List.getElem?_map, hx, hy] at e1
  have e2 := Option.some.inj e1
  simp only [Stp.key, Prod.mk.injEq] at e2
  obtain ⟨k1, k2, k3, k4⟩ := e2
  obtain ⟨A, c, e3, hs, _⟩ := sl_row (hp x (List.mem_of_getElem? hx)) rfl
  obtain ⟨A', c', e4, hs', _⟩ := sl_row (hp' y (List.mem_of_getElem? hy)) rfl
  simp only [Stp.sl, Value.slice.injEq] at e3 e4
  obtain ⟨rfl, e5, rfl⟩ := e3
  obtain ⟨rfl, e6, rfl⟩ := e4
  rw [← k4] at e6 hs'
  exact ⟨k1, k2, k3, e5, e6, hs, hs', hl x (List.mem_of_getElem? hx)⟩
set_option maxRecDepth 100000 in
set_option maxHeartbeats 4000000 in
theorem EqSb_any {B B' : Nat} {w : World} {v v' : Value} {es es' : List Stp} (h : w.ownsRow B 49 4 v es.length (es.flatMap Stp.cs)) (h' : w.ownsRow B' 49 4 v' es'.length (es'.flatMap Stp.cs)) (hp : ∀ s ∈ es, w.ownsRow B 9 1 s.sl s.ps.length (s.ps.map encStr)) (hp' : ∀ s ∈ es', w.ownsRow B' 9 1 s.sl s.ps.length (s.ps.map encStr)) (hk : es.map Stp.key = es'.map Stp.key) (hl : ∀ s ∈ es, s.ps.length ≤ 1000) (hl9 : es.length ≤ 1000) :
    Calls Tryz.prog 19 #[v, v', .func (.func 22) #[] #[]] w fun e w' => e = .returned (.bool true) ∧ Below w.heap.size w w' := by
  obtain ⟨hlen, hal⟩ := alikS_of (v := v) (v' := v') hp hp' hk hl
  obtain ⟨A, c, rfl, hs, _⟩ := sl_of_own (f := Stp.cs) (fun _ => rfl) rfl h
  obtain ⟨A', c', rfl, hs', _⟩ := sl_of_own (f := Stp.cs) (fun _ => rfl) rfl h'
  have HS := hide hs
  have HS' := hide hs'
  have HAL := hide hal
  obtain ⟨n, hn⟩ : ∃ n, es.length = n := ⟨_, rfl⟩
  rw [← hlen, hn]
  rw [hn] at HS
  rw [← hlen, hn] at HS'
  have hn1 : n ≤ 100000 := by
    omega
  clear h h' hs hs' hal hlen hn hp hp' hk hl
  go_enter Tryz.func19, Tryz.ntmps19
  go_wp2_with (fail)
  go_loopw [17] (fun i wr => ∃ j : Nat, j ≤ n ∧ i = .int .i64 j ∧ Below w.heap.size w wr) (fun i _ => n - (intOf i).toNat)
  case atStart => exact ⟨0, Nat.zero_le _, rfl, Below.refl _ _⟩
  case round =>
    obtain ⟨j, hj, rfl, hB⟩ := hrel
    have HB := hide hB
    have hz := hB.size
    by_cases hlt : j < n
    · obtain ⟨bb, oo, x, rfl, hbb, hx, hc⟩ := (HS.out.below hB).at_ hlt
      obtain ⟨bb', oo', y, rfl, hbb', hx', hc'⟩ := (HS'.out.below hB).at_ hlt
      have hA := HAL.out j x y hx hx'
      have HA := hide (hA.below hB)
      have c0 : wr.cell? ⟨bb, oo + j * 4, none⟩ = some (.int .i64 x.kind) := by simpa using hc 0 _ rfl
      have c1 : wr.cell? ⟨bb, oo + j * 4 + 1, none⟩ = some (.int .i64 x.a) := hc 1 _ rfl
      have c2 : wr.cell? ⟨bb, oo + j * 4 + 2, none⟩ = some (.int .i64 x.b) := hc 2 _ rfl
      have c3 : wr.cell? ⟨bb, oo + j * 4 + 3, none⟩ = some (.slice x.A x.n x.c) := hc 3 _ rfl
      have d0 : wr.cell? ⟨bb', oo' + j * 4, none⟩ = some (.int .i64 y.kind) := by simpa using hc' 0 _ rfl
      have d1 : wr.cell? ⟨bb', oo' + j * 4 + 1, none⟩ = some (.int .i64 y.a) := hc' 1 _ rfl
      have d2 : wr.cell? ⟨bb', oo' + j * 4 + 2, none⟩ = some (.int .i64 y.b) := hc' 2 _ rfl
      have d3 : wr.cell? ⟨bb', oo' + j * 4 + 3, none⟩ = some (.slice y.A y.n y.c) := hc' 3 _ rfl
      have HG : Hid (∀ o o' : Obj, Below wr.heap.size wr ((wr.alloc o).alloc o')) := hide fun o o' => ((Below.refl _ _).alloc (Nat.le_refl _) _).alloc (by simp) _
      have CW := hide (fun W h => cloS x y W h)
      have hjn : (j : Int) < (n : Int) := by omega
      clear hc hc' hx hx' hB hA
      go_wp2_with (fail)
      refine (CW.out _ (HA.out.below (HG.out _ _))).mono ?_
      rintro e w1 ⟨rfl, hw1⟩
      have HB1 := hide (HB.out.trans (((HG.out _ _).trans (hw1.mono (by simp; omega))).mono hz))
      clear hw1
      go_wp2_with (fail)
      go_roundw
      case rel => exact ⟨j + 1, by omega, by go_num, HB1.out⟩
      case measure => simp [intOf]; omega
    · have hjn : ¬ (j : Int) < (n : Int) := by omega
      clear hB
      go_wp2_with (fail)
      go_ret
      exact ⟨rfl, HB.out⟩
end Go.Proofs.YtapfcnfmonknjaaGreatDoor.Bk
