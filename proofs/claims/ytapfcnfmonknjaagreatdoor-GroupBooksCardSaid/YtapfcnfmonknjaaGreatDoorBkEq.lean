/- Groups alike: slices.EqualFunc over two rows of groups. -/
import Derived.Test.YtapfcnfmonknjaaGreatDoorBkHi
namespace Go.Proofs.YtapfcnfmonknjaaGreatDoor.Bk
open Go.RowKit Go.Maps Go.Sort
set_option linter.unusedVariables false
set_option linter.unusedSimpArgs false
set_option maxHeartbeats 2000000 in
theorem EqP_any (A : Option Addr) (n c : Nat) (A' : Option Addr) (c' : Nat) (x : List (List UInt8)) (w : World) (hn : n ≤ 100000) (h : Sl w w.heap.size se 1 A n x) (h' : Sl w w.heap.size se 1 A' n x) :
    Calls Tryz.prog 43 #[.slice A n c, .slice A' n c'] w fun e w' => e = .returned (.bool true) ∧ Below w.heap.size w w' := by
  have HS := hide h
  have HS' := hide h'
  clear h h'
  go_enter Tryz.func43, Tryz.ntmps43
  go_wp2_with (fail)
  go_loopw [13] (fun i wr => ∃ j : Nat, j ≤ n ∧ i = .int .i64 j ∧ Below w.heap.size w wr) (fun i _ => n - (intOf i).toNat)
  case atStart => exact ⟨0, Nat.zero_le _, rfl, Below.refl _ _⟩
  case round =>
    obtain ⟨j, hj, rfl, hB⟩ := hrel
    have HB := hide hB
    by_cases hlt : j < n
    · obtain ⟨bb, oo, z, rfl, hbb, hx, hc⟩ := (HS.out.below hB).at_ hlt
      obtain ⟨bb', oo', z', rfl, hbb', hx', hc'⟩ := (HS'.out.below hB).at_ hlt
      rw [hx] at hx'
      obtain rfl := Option.some.inj hx'
      have c0 : wr.cell? ⟨bb, oo + j, none⟩ = some (encStr z) := by simpa [se] using hc 0 _ rfl
      have d0 : wr.cell? ⟨bb', oo' + j, none⟩ = some (encStr z) := by simpa [se] using hc' 0 _ rfl
      unfold encStr at c0 d0
      have hjn : (j : Int) < (n : Int) := by omega
      clear hc hc' hx hx' hB
      go_wp2_with (first | go_quiet (fail))
      go_roundw
      case rel => exact ⟨j + 1, by omega, by go_num, by first | exact HB.out.drew | exact below_drewN HB.out _ | exact HB.out⟩
      case measure => simp [intOf]; omega
    · have hjn : ¬ (j : Int) < (n : Int) := by omega
      clear hB
      go_wp2_with (fail)
      go_ret
      exact ⟨rfl, HB.out⟩
/-- Two groups in memory that read alike. -/
structure Alike (w : World) (x y : Ge) (ps : List (List UInt8)) : Prop where
  id : x.id = y.id
  ev : x.ev = y.ev
  wt : x.wt = y.wt
  fi : x.fi = y.fi
  la : x.la = y.la
  nx : x.n = ps.length
  ny : y.n = ps.length
  sx : Sl w w.heap.size se 1 x.A ps.length ps
  sy : Sl w w.heap.size se 1 y.A ps.length ps
  len : ps.length ≤ 1000
theorem Alike.below {w w' : World} {x y : Ge} {ps : List (List UInt8)} (h : Alike w x y ps) (hb : Below w.heap.size w w') : Alike w' x y ps := ⟨h.id, h.ev, h.wt, h.fi, h.la, h.nx, h.ny, Sl.up h.sx hb, Sl.up h.sy hb, h.len⟩
/-- Rows of groups of the same records are alike. -/
theorem alike_of {B B' : Nat} {w : World} {v v' : Value} {l : List Pr} {es es' : List Ge} (h : GrsIn B w v l es) (h' : GrsIn B' w v' l es') (hl : l.length ≤ 1000) : es.length = es'.length ∧ ∀ (j : Nat) x y, es[j]? = some x → es'[j]? = some y → ∃ ps, Alike w x y ps := by
  have e := h.gr.one h'.gr
  have hlen : es.length = es'.length := by have := congrArg List.length e; simpa using this
  refine ⟨hlen, fun j x y hx hy => ?_⟩
  have e1 : (es.map fun e => grO e.id l)[j]? = (es'.map fun e => grO e.id l)[j]? := by rw [e]
  rw [List.getElem?_map, List.getElem?_map, hx, hy] at e1
  have e2 := Option.some.inj e1
  have hid : x.id = y.id := congrArg Gr.id e2
  have hxm := List.mem_of_getElem? hx
  have hym := List.mem_of_getElem? hy
  obtain ⟨a1, a2, a3, a4⟩ := h.at_ x hxm
  obtain ⟨b1, b2, b3, b4⟩ := h'.at_ y hym
  have hp := h.ps x hxm
  have hq := h'.ps y hym
  rw [← hid] at b1 b2 b3 b4 hq
  have hln : (grO x.id l).ps.length ≤ 1000 := by
    have h1 := rawG_len x.id l
    have h2 : (grO x.id l).ps.length = (rawG x.id l).ps.length := srtP_len _
    omega
  obtain ⟨A, c, e3, hs, _⟩ := sl_row hp rfl
  obtain ⟨A', c', e4, hs', _⟩ := sl_row hq rfl
  simp only [Ge.sl, Value.slice.injEq] at e3 e4
  obtain ⟨rfl, e5, rfl⟩ := e3
  obtain ⟨rfl, e6, rfl⟩ := e4
  exact ⟨(grO x.id l).ps, hid, by rw [a1, b1], by rw [a2, b2], by rw [a3, b3], by rw [a4, b4], e5, e6, hs, hs', hln⟩
end Go.Proofs.YtapfcnfmonknjaaGreatDoor.Bk
