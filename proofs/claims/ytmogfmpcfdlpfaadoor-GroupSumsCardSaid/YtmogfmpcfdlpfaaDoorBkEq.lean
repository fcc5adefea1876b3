/- Groups alike: slices.EqualFunc over two rows of groups. -/
import Derived.Test.YtmogfmpcfdlpfaaDoorBkHi
namespace Go.Proofs.YtmogfmpcfdlpfaaDoor.Bk
open Go.RowKit Go.Maps Go.Sort
set_option linter.unusedVariables false
set_option linter.unusedSimpArgs false
set_option maxHeartbeats 2000000 in
theorem EqP_any (A : Option Addr) (n c : Nat) (A' : Option Addr) (c' : Nat) (x : List (List UInt8)) (w : World) (hn : n ≤ 100000) (h : Sl w w.heap.size se 1 A n x) (h' : Sl w w.heap.size se 1 A' n x) :
    Calls Tryd.prog 16 #[.slice A n c, .slice A' n c'] w fun e w' => e = .returned (.bool true) ∧ Below w.heap.size w w' := by
  have HS := hide h
  have HS' := hide h'
  clear h h'
  go_enter Tryd.func16, Tryd.ntmps16
  go_wp2_with (fail)
  go_loopw [13] (fun i wr => ∃ j : Nat, j ≤ n ∧ i = .int .i64 j ∧ Below w.heap.size w wr) (fun i _ => n - (intOf i).toNat)
  case atStart => exact ⟨0, Nat.zero_le _, rfl, Below.refl _ _⟩
  case round =>
    obtain ⟨j, hj, rfl, hB⟩ := hrel
    have HB := hide hB
    by_cases hlt : j < n
    · obtain ⟨bb, oo, z, rfl, hbb, hx, hc⟩ := (HS.out.below hB).at_ hlt
      obtain ⟨bb', oo', z', rfl, hbb', hx', hc'⟩ := (HS'.out.below hB).at_ hlt
      rw [hx] at hx'
      obtain rfl := Option.some.inj hx'
      have c0 : wr.cell? ⟨bb, oo + j, none⟩ = some (encStr z) := by simpa [se] using hc 0 _ rfl
      have d0 : wr.cell? ⟨bb', oo' + j, none⟩ = some (encStr z) := by simpa [se] using hc' 0 _ rfl
      unfold encStr at c0 d0
      have hjn : (j : Int) < (n : Int) := by omega
      clear hc hc' hx hx' hB
      go_wp2_with (first | go_quiet (fail))
      go_roundw
      case rel => exact ⟨j + 1, by omega, by go_num, by first | exact HB.out.drew | exact below_drewN HB.out _ | exact HB.out⟩
      case measure => simp [intOf]; omega
    · have hjn : ¬ (j : Int) < (n : Int) := by omega
      clear hB
      go_wp2_with (fail)
      go_ret
      exact ⟨rfl, HB.out⟩
/-- Two groups in memory that read alike. -/
structure Alike (w : World) (x y : Ge) (ps : List (List UInt8)) : Prop where
  id : x.id = y.id
  ev : x.ev = y.ev
  wt : x.wt = y.wt
  fi : x.fi = y.fi
  la : x.la = y.la
  nx : x.n = ps.length
  ny : y.n = ps.length
  sx : Sl w w.heap.size se 1 x.A ps.length ps
  sy : Sl w w.heap.size se 1 y.A ps.length ps
  len : ps.length ≤ 1000
theorem Alike.below {w w' : World} {x y : Ge} {ps : List (List UInt8)} (h : Alike w x y ps) (hb : Below w.heap.size w w') : Alike w' x y ps := ⟨h.id, h.ev, h.wt, h.fi, h.la, h.nx, h.ny, Sl.up h.sx hb, Sl.up h.sy hb, h.len⟩
set_option maxRecDepth 100000 in
set_option maxHeartbeats 4000000 in
theorem cloU (x y : Ge) (ps : List (List UInt8)) (w : World) (h : Alike w x y ps) :
    Calls Tryd.prog 15 #[.agg #[.int .i64 x.id, .slice x.A x.n x.c, .int .i64 x.ev, .int .i64 x.wt, .int .i64 x.fi, .int .i64 x.la], .agg #[.int .i64 y.id, .slice y.A y.n y.c, .int .i64 y.ev, .int .i64 y.wt, .int .i64 y.fi, .int .i64 y.la]] w fun e w' => e = .returned (.bool true) ∧ Below w.heap.size w w' := by
  obtain ⟨i, A, n, c, ev, wt, fi, la⟩ := x
  obtain ⟨i', A', n', c', ev', wt', fi', la'⟩ := y
  obtain ⟨h1, h2, h3, h4, h5, h6, h7, h8, h9, h10⟩ := h
  simp only at h1 h2 h3 h4 h5 h6 h7 h8 h9
  subst h1 h2 h3 h4 h5 h6 h7
  have H8 := hide h8
  have H9 := hide h9
  have HB : Hid (∀ o o' : Obj, Below w.heap.size w ((w.alloc o).alloc o')) := hide fun o o' => ((Below.refl _ _).alloc (Nat.le_refl _) _).alloc (by simp) _
  clear h8 h9
  go_enter Tryd.func15, Tryd.ntmps15
  go_wp2_with (fail)
  refine (EqP_any _ _ _ _ _ ps _ (by omega) (Sl.up H8.out (HB.out _ _)) (Sl.up H9.out (HB.out _ _))).mono ?_
  rintro e w1 ⟨rfl, hw1⟩
  have HB1 := hide ((HB.out (.cells #[.int .i64 i, .slice A ps.length c, .int .i64 ev, .int .i64 wt, .int .i64 fi, .int .i64 la] 35) (.cells #[.int .i64 i, .slice A' ps.length c', .int .i64 ev, .int .i64 wt, .int .i64 fi, .int .i64 la] 35)).trans (hw1.mono (by simp; omega)))
  have hx := block_below (block_below (heap_alloc_new w (.cells #[.int .i64 i, .slice A ps.length c, .int .i64 ev, .int .i64 wt, .int .i64 fi, .int .i64 la] 35)) ((Below.refl _ _).alloc (Nat.le_refl _) (.cells #[.int .i64 i, .slice A' ps.length c', .int .i64 ev, .int .i64 wt, .int .i64 fi, .int .i64 la] 35))) hw1
  have hy := block_below (heap_alloc_new (w.alloc (.cells #[.int .i64 i, .slice A ps.length c, .int .i64 ev, .int .i64 wt, .int .i64 fi, .int .i64 la] 35)) (.cells #[.int .i64 i, .slice A' ps.length c', .int .i64 ev, .int .i64 wt, .int .i64 fi, .int .i64 la] 35)) hw1
  have hz1 : (w.alloc (.cells #[.int .i64 i, .slice A ps.length c, .int .i64 ev, .int .i64 wt, .int .i64 fi, .int .i64 la] 35)).heap.size = w.heap.size + 1 := by simp
  rw [hz1] at hy
  have x2 : w1.cell? ⟨w.heap.size, 2, none⟩ = some (.int .i64 ev) := (block_cell hx 2).trans rfl
  have x3 : w1.cell? ⟨w.heap.size, 3, none⟩ = some (.int .i64 wt) := (block_cell hx 3).trans rfl
  have x4 : w1.cell? ⟨w.heap.size, 4, none⟩ = some (.int .i64 fi) := (block_cell hx 4).trans rfl
  have x5 : w1.cell? ⟨w.heap.size, 5, none⟩ = some (.int .i64 la) := (block_cell hx 5).trans rfl
  have y2 : w1.cell? ⟨w.heap.size + 1, 2, none⟩ = some (.int .i64 ev) := (block_cell hy 2).trans rfl
  have y3 : w1.cell? ⟨w.heap.size + 1, 3, none⟩ = some (.int .i64 wt) := (block_cell hy 3).trans rfl
  have y4 : w1.cell? ⟨w.heap.size + 1, 4, none⟩ = some (.int .i64 fi) := (block_cell hy 4).trans rfl
  have y5 : w1.cell? ⟨w.heap.size + 1, 5, none⟩ = some (.int .i64 la) := (block_cell hy 5).trans rfl
  clear hx hy hw1 hz1
  go_wp2_with (fail)
  go_ret
  exact ⟨rfl, HB1.out⟩
/-- Rows of groups of the same records are alike. -/
theorem alike_of {B B' : Nat} {w : World} {v v' : Value} {l : List Pr} {es es' : List Ge} (h : GrsIn B w v l es) (h' : GrsIn B' w v' l es') (hl : l.length ≤ 1000) : es.length = es'.length ∧ ∀ (j : Nat) x y, es[j]? = some x → es'[j]? = some y → ∃ ps, Alike w x y ps := by
  have e := h.gr.one h'.gr
  have hlen : es.length = es'.length := by have := congrArg List.length e; simpa using this
  refine ⟨hlen, fun j x y hx hy => ?_⟩
  have e1 : (es.map fun e => grO e.id l)[j]? = (es'.map fun e => grO e.id l)[j]? := by rw [e]
  rw [List.getElem?_map, List.getElem?_map, hx, hy] at e1
  have e2 := Option.some.inj e1
  have hid : x.id = y.id := congrArg Gr.id e2
  have hxm := List.mem_of_getElem? hx
  have hym := List.mem_of_getElem? hy
  obtain ⟨a1, a2, a3, a4⟩ := h.at_ x hxm
  obtain ⟨b1, b2, b3, b4⟩ := h'.at_ y hym
  have hp := h.ps x hxm
  have hq := h'.ps y hym
  rw [← hid] at b1 b2 b3 b4 hq
  have hln : (grO x.id l).ps.length ≤ 1000 := by
    have h1 := rawG_len x.id l
    have h2 : (grO x.id l).ps.length = (rawG x.id l).ps.length := srtP_len _
    omega
  obtain ⟨A, c, e3, hs, _⟩ := sl_row hp rfl
  obtain ⟨A', c', e4, hs', _⟩ := sl_row hq rfl
  simp only [Ge.sl, Value.slice.injEq] at e3 e4
  obtain ⟨rfl, e5, rfl⟩ := e3
  obtain ⟨rfl, e6, rfl⟩ := e4
  exact ⟨(grO x.id l).ps, hid, by rw [a1, b1], by rw [a2, b2], by rw [a3, b3], by rw [a4, b4], e5, e6, hs, hs', hln⟩
set_option maxRecDepth 100000 in
set_option maxHeartbeats 4000000 in
theorem EqGs_any {B B' : Nat} {w : World} {v v' : Value} {l : List Pr} {es es' : List Ge} (h : GrsIn B w v l es) (h' : GrsIn B' w v' l es') (hl : l.length ≤ 1000) :
    Calls Tryd.prog 14 #[v, v', .func (.func 15) #[] #[]] w fun e w' => e = .returned (.bool true) ∧ Below w.heap.size w w' := by
  obtain ⟨hlen, hal⟩ := alike_of h h' hl
  obtain ⟨A, c, rfl, hs, _⟩ := sl_of_own (f := Ge.cs) (fun _ => rfl) rfl h.own
  obtain ⟨A', c', rfl, hs', _⟩ := sl_of_own (f := Ge.cs) (fun _ => rfl) rfl h'.own
  have HS := hide hs
  have HS' := hide hs'
  have HAL := hide hal
  obtain ⟨n, hn⟩ : ∃ n, es.length = n := ⟨_, rfl⟩
  rw [← hlen, hn]
  rw [hn] at HS
  rw [← hlen, hn] at HS'
  have hn1 : n ≤ 100000 := by
    have h1 := len_g h
    omega
  clear h h' hs hs' hal hlen hn
  go_enter Tryd.func14, Tryd.ntmps14
  go_wp2_with (fail)
  go_loopw [17] (fun i wr => ∃ j : Nat, j ≤ n ∧ i = .int .i64 j ∧ Below w.heap.size w wr) (fun i _ => n - (intOf i).toNat)
  case atStart => exact ⟨0, Nat.zero_le _, rfl, Below.refl _ _⟩
  case round =>
    obtain ⟨j, hj, rfl, hB⟩ := hrel
    have HB := hide hB
    have hz := hB.size
    by_cases hlt : j < n
    · obtain ⟨bb, oo, x, rfl, hbb, hx, hc⟩ := (HS.out.below hB).at_ hlt
      obtain ⟨bb', oo', y, rfl, hbb', hx', hc'⟩ := (HS'.out.below hB).at_ hlt
      obtain ⟨ps, hA⟩ := HAL.out j x y hx hx'
      have HA := hide (hA.below hB)
      have c0 : wr.cell? ⟨bb, oo + j * 6, none⟩ = some (.int .i64 x.id) := by simpa using hc 0 _ rfl
      have c1 : wr.cell? ⟨bb, oo + j * 6 + 1, none⟩ = some (.slice x.A x.n x.c) := hc 1 _ rfl
      have c2 : wr.cell? ⟨bb, oo + j * 6 + 2, none⟩ = some (.int .i64 x.ev) := hc 2 _ rfl
      have c3 : wr.cell? ⟨bb, oo + j * 6 + 3, none⟩ = some (.int .i64 x.wt) := hc 3 _ rfl
      have c4 : wr.cell? ⟨bb, oo + j * 6 + 4, none⟩ = some (.int .i64 x.fi) := hc 4 _ rfl
      have c5 : wr.cell? ⟨bb, oo + j * 6 + 5, none⟩ = some (.int .i64 x.la) := hc 5 _ rfl
      have d0 : wr.cell? ⟨bb', oo' + j * 6, none⟩ = some (.int .i64 y.id) := by simpa using hc' 0 _ rfl
      have d1 : wr.cell? ⟨bb', oo' + j * 6 + 1, none⟩ = some (.slice y.A y.n y.c) := hc' 1 _ rfl
      have d2 : wr.cell? ⟨bb', oo' + j * 6 + 2, none⟩ = some (.int .i64 y.ev) := hc' 2 _ rfl
      have d3 : wr.cell? ⟨bb', oo' + j * 6 + 3, none⟩ = some (.int .i64 y.wt) := hc' 3 _ rfl
      have d4 : wr.cell? ⟨bb', oo' + j * 6 + 4, none⟩ = some (.int .i64 y.fi) := hc' 4 _ rfl
      have d5 : wr.cell? ⟨bb', oo' + j * 6 + 5, none⟩ = some (.int .i64 y.la) := hc' 5 _ rfl
      have HG : Hid (∀ o o' : Obj, Below wr.heap.size wr ((wr.alloc o).alloc o')) := hide fun o o' => ((Below.refl _ _).alloc (Nat.le_refl _) _).alloc (by simp) _
      have CW := hide (fun W h => cloU x y ps W h)
      have hjn : (j : Int) < (n : Int) := by omega
      clear hc hc' hx hx' hB hA
      go_wp2_with (fail)
      refine (CW.out _ (HA.out.below (HG.out _ _))).mono ?_
      rintro e w1 ⟨rfl, hw1⟩
      have HB1 := hide (HB.out.trans (((HG.out _ _).trans (hw1.mono (by simp; omega))).mono hz))
      clear hw1
      go_wp2_with (fail)
      go_roundw
      case rel => exact ⟨j + 1, by omega, by go_num, HB1.out⟩
      case measure => simp [intOf]; omega
    · have hjn : ¬ (j : Int) < (n : Int) := by omega
      clear hB
      go_wp2_with (fail)
      go_ret
      exact ⟨rfl, HB.out⟩
end Go.Proofs.YtmogfmpcfdlpfaaDoor.Bk
