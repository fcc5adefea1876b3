/- Walks of stack.Unfold and inqref1.Unfolded where the runs are right (printed by gen_uo.py). -/
import Derived.Test.YtbfhicimjijdeaaDoorStRuns2
import Derived.Test.YtbfhicimjijdeaaDoorSlDrop
import Derived.Test.YtbfhicimjijdeaaDoorOwn
import Derived.Lib.SmallJoins
namespace Go.Proofs.YtbfhicimjijdeaaDoor
open Go.RowKit Go.Joins
set_option linter.unusedVariables false
theorem info_frame : (Tryd.prog.info? 39).map (fun i => (i.zero, i.size, i.bytes)) = some (some (.agg #[.string ByteArray.empty, .string ByteArray.empty, .string ByteArray.empty, .int .i64 0, .int .i64 0, .bool false]), 6, 72) := by kernel_rfl
theorem frames_cells (L : List Frame) : ∀ u ∈ L.flatMap Frame.cs, u.oneCell' = true := by
  intro u hu
  obtain ⟨x, _, hx⟩ := List.mem_flatMap.1 hu
  simp [Frame.cs] at hx
  rcases hx with rfl | rfl | rfl | rfl | rfl | rfl <;> rfl
/-- An owned row is not a block of other cells. -/
theorem own_other {w : World} {base : Nat} {e ty : TypeId} {sz : Nat} {v : Value} {n : Nat} {xs : List Value} {B : Nat} {cs : Array Value} {fr : Nat × Nat} (h : w.ownsRow base e sz v n xs) (hb : w.heap[B]? = some (.cells cs ty fr)) (hne : e ≠ ty) : v.ownBlock ≠ some B := by
  rcases h.2 with ⟨rfl, _⟩ | ⟨g, cap, cur, rfl, _, hh, _⟩
  · simp [Value.ownBlock]
  · intro e
    simp [Value.ownBlock] at e
    subst e
    rw [hh] at hb
    simp at hb
    exact hne hb.2.1
/-- A slice of frames, with no error. -/
def GivesFrames (L : List Frame) (W : World) (e : Ending) (w' : World) : Prop := ∃ A N c, e = .returned (.tuple #[.slice A N c, .int .i64 0]) ∧ Sl w' w'.heap.size Frame.cs 6 A N L ∧ Below W.heap.size W w' 
theorem slc {A A' : Option Addr} {n n' c c' : Nat} (h : A = A') (h1 : n = n') (h2 : c = c') : Value.slice A n c = .slice A' n' c' := by rw [h, h1, h2]
theorem rep_flat_len (t : Nat) (l : List Frame) : (List.replicate t l).flatten.length = t * l.length := by simp
theorem unfL_step {l : List Frame} {rs : List RunT} {k g t q : Nat} {x : RunT} (hx : rs[k]? = some x) (hg : x.long = g) (ht : x.times = t) (hq : q = longs (rs.take k)) :
    unfL l (rs.take (k + 1)) = unfL l (rs.take k) ++ (List.replicate t ((l.drop q).take g)).flatten := by
  rw [take_succ_get hx, unfL_snoc, hg, ht, ← hq]; rfl
theorem at_zero {w : World} {B n : Nat} {A : Option Addr} {l : List Frame} (h : Sl w B Frame.cs 6 A n l) (h0 : 0 < n) : ∃ b o, A = some ⟨b, o, none⟩ ∧ A = some ⟨b, o + 0 * 6, none⟩ := by
  obtain ⟨b, o, e, _⟩ := h.cells h0
  exact ⟨b, o, e, by rw [e, Nat.zero_mul, Nat.add_zero]⟩
set_option maxRecDepth 100000 in
set_option maxHeartbeats 4000000 in
theorem Unfold_ok (A : Option Addr) (n cap : Nat) (l : List Frame) (A2 : Option Addr) (m cap2 : Nat) (rs : List RunT) (w : World) (hn : n ≤ 200) (hnc : n ≤ cap) (hm : m ≤ 200) (hl : Sl w w.heap.size Frame.cs 6 A n l) (hf : FramesFit l) (h2 : Sl w w.heap.size RunT.cs 3 A2 m rs) (hF : frsErr l = 0)
    (hall : ∀ x ∈ rs, runOk x = true) (hs : sumLong rs = n) (hch : ∀ j x, rs[j]? = some x → x.frm = total (rs.take j)) (ht : total rs ≤ 200) :
    Calls Tryd.prog 16 #[.slice A n cap, .slice A2 m cap2] w (GivesFrames (unfL l rs) w) := by
  have HL := hide hl.len
  have H2L := hide h2.len
  obtain ⟨i0, hi0, iz0, iz1, iz2⟩ := info_parts info_frame
  have HCH := hide hch
  have HALL := hide hall
  have HS := hide hs
  have HTOT := hide ht
  clear hch hall hs ht
  have C := hide (fun W => checkFrames_any A n cap l W (by unfold maxLen; omega))
  have C := hide (show Calls Tryd.prog 35 #[.slice A n cap] w fun e w' => e = .returned (.int .i64 0) ∧ Below w.heap.size w w' by have := C.out w hl hf; rw [hF] at this; exact this)
  go_enter Tryd.func16, Tryd.ntmps16
  go_wp2_with (go_at_call 35; refine C.out.mono ?_; rintro r w0 ⟨rfl, hB0⟩)
  go_loopw [7, 23] (fun s i wr => ∃ k : Nat, k ≤ m ∧ i = .int .i64 k ∧ s = .int .i64 (sumLong (rs.take k)) ∧ Below w.heap.size w wr) (fun _ i _ => m - (intOf i).toNat)
  case atStart => exact ⟨0, Nat.zero_le _, rfl, rfl, hB0⟩
  case round =>
    obtain ⟨k, hk, rfl, rfl, hB⟩ := hrel
    have hz := hB.size
    obtain ⟨b0, b1, _, _⟩ := sums_bd (rs.take k) (fun x hx => HALL.out x (List.mem_of_mem_take hx))
    have hlen : (rs.take k).length ≤ k := List.length_take_le _ _
    by_cases hlt : k < m
    · obtain ⟨bb, oo, x, rfl, hbb, hx, hc⟩ := (h2.below hB).at_ hlt
      have c0 := hc 0 _ rfl
      have c1 := hc 1 _ rfl
      have c2 := hc 2 _ rfl
      simp only [Nat.add_zero] at c0
      have HX := hide hx
      have hok := HALL.out x (List.mem_of_getElem? hx)
      obtain ⟨⟨p0, p1⟩, _⟩ := (runOk_iff x).1 hok
      obtain ⟨o1', o2'⟩ : outsideB x.long 1 200 = false ∧ outsideB x.times 1 200 = false := by simpa [runOk] using hok
      clear hc hx hok
      go_wp2_with ((go_at_call 18; refine (outside_any _ _ _ _).mono ?_; rintro e w' ⟨rfl, rfl⟩))
      go_roundw
      case rel => exact ⟨k + 1, by omega, by go_num, by rw [take_succ_get HX.out, sumLong_snoc], hB.alloc hz _⟩
      case measure => simp [intOf]; omega
    · have hs1 : (sumLong (rs.take k) != (n : Int)) = false := by rw [take_len rs (k := k) (by have := H2L.out; omega)]; simpa using HS.out
      go_wp2_with (fail)
      clear hlt hk hs1 b0 b1 hlen
      obtain ⟨wo, rfl⟩ : ∃ wo : World, wo = wr := ⟨_, rfl⟩
      go_loopw [10, 46] (fun s i wr => ∃ k : Nat, k ≤ m ∧ i = .int .i64 k ∧ s = .int .i64 (total (rs.take k)) ∧ Below w.heap.size w wr) (fun _ i _ => m - (intOf i).toNat)
      case atStart => exact ⟨0, Nat.zero_le _, rfl, rfl, hB⟩
      case round =>
        obtain ⟨k2, hk2, rfl, rfl, hB2⟩ := hrel
        have hz2 := hB2.size
        obtain ⟨e0, _, e2, e3⟩ := sums_bd (rs.take k2) (fun x hx => HALL.out x (List.mem_of_mem_take hx))
        have hlen2 : (rs.take k2).length ≤ k2 := List.length_take_le _ _
        by_cases hlt2 : k2 < m
        · obtain ⟨bb, oo, x, rfl, hbb, hx, hc⟩ := (h2.below hB2).at_ hlt2
          have c0 := hc 0 _ rfl
          have c1 := hc 1 _ rfl
          have c2 := hc 2 _ rfl
          simp only [Nat.add_zero] at c0
          have HX := hide hx
          obtain ⟨p0, p1⟩ := (runOk_iff x).1 (HALL.out x (List.mem_of_getElem? hx))
          obtain ⟨q0, q1, q2⟩ := mul_bd p0 p1
          have hfr := HCH.out _ _ hx
          have hfr1 : (x.frm != total (rs.take k2)) = false := by simpa using hfr
          clear hc hx
          go_wp2_with (fail)
          go_roundw
          case rel => exact ⟨k2 + 1, by omega, by go_num, by rw [take_succ_get HX.out, total_snoc], hB2.alloc hz2 _⟩
          case measure => simp [intOf]; omega
        · have h200 : total (rs.take k2) ≤ 200 := by rw [take_len rs (k := k2) (by have := H2L.out; omega)]; exact HTOT.out
          go_wp2_with (fail)
          clear hlt2 hk2 h200 e0 e2 e3 hlen2
          obtain ⟨wq, rfl⟩ : ∃ wq : World, wq = wr := ⟨_, rfl⟩
          go_loopw [0, 13, 66] (fun sl out i wr => ∃ (k q c : Nat) (A' : Option Addr), k ≤ m ∧ i = .int .i64 k ∧ q = longs (rs.take k) ∧ c = (unfL l (rs.take k)).length ∧ sl = .slice A' (n - q) (cap - q) ∧ (q < n → ∃ b o, A = some ⟨b, o, none⟩ ∧ A' = some ⟨b, o + q * 6, none⟩) ∧ wr.ownsRow w.heap.size 39 6 out c ((unfL l (rs.take k)).flatMap Frame.cs) ∧ Below w.heap.size w wr) (fun _ _ i _ => m - (intOf i).toNat)
          case atStart => exact ⟨0, 0, 0, A, Nat.zero_le _, rfl, rfl, rfl, rfl, fun h0 => at_zero hl h0, World.ownsRow_nil _ _ _ _, hB2⟩
          case round =>
            obtain ⟨k3, q, c, A', hk3, rfl, hq, hc, rfl, hoa, hown, hB3⟩ := hrel
            have hz3 := hB3.size
            by_cases hlt3 : k3 < m
            · obtain ⟨bb, oo, x, rfl, hbb, hx, hcc⟩ := (h2.below hB3).at_ hlt3
              have c0 := hcc 0 _ rfl
              have c1 := hcc 1 _ rfl
              have c2 := hcc 2 _ rfl
              simp only [Nat.add_zero] at c0
              have HX := hide hx
              obtain ⟨⟨p0, p1⟩, p2, p3⟩ := (runOk_iff x).1 (HALL.out x (List.mem_of_getElem? hx))
              obtain ⟨g, hg⟩ : ∃ g : Nat, x.long = g := ⟨x.long.toNat, by omega⟩
              obtain ⟨t, ht⟩ : ∃ t : Nat, x.times = t := ⟨x.times.toNat, by omega⟩
              have hqg : longs (rs.take (k3 + 1)) = q + g := by rw [take_succ_get hx, longs_snoc, ← hq]; omega
              have hqn : q + g ≤ n := by
                have a1 := longs_sum (rs.take (k3 + 1)) (fun x hx => HALL.out x (List.mem_of_mem_take hx))
                have a2 := sumLong_take_le rs (k3 + 1) HALL.out
                have a3 := HS.out
                omega
              have hcl : c ≤ 8000000 := by
                have a1 := unfL_len l (rs.take k3) (fun x hx => HALL.out x (List.mem_of_mem_take hx))
                have a2 := (sums_bd (rs.take k3) (fun x hx => HALL.out x (List.mem_of_mem_take hx))).2.2.2
                have a3 : (rs.take k3).length ≤ k3 := List.length_take_le _ _
                have a4 : ((rs.take k3).length : Int) ≤ 200 := by omega
                omega
              have HNX := hide (unfL_step (l := l) hx hg ht hq)
              rw [hg] at c1 p0 p1
              rw [ht] at c2 p2 p3
              obtain ⟨b, o, rfl, rfl⟩ := hoa (by omega)
              have HQ := hide hq
              have HQG := hide hqg
              have HC := hide hc
              have HOWN := hide hown
              clear hcc hx hg ht hq hqg hc hoa hown
              go_wp2_with (fail)
              obtain ⟨wp, rfl⟩ : ∃ wp : World, wp = wr := ⟨_, rfl⟩
              go_loopw [13, 72] (fun out i wr => ∃ j : Nat, j ≤ t ∧ i = .int .i64 j ∧ wr.ownsRow w.heap.size 39 6 out (c + j * g) ((unfL l (rs.take k3) ++ (List.replicate j ((l.drop q).take g)).flatten).flatMap Frame.cs) ∧ wr.heap[wp.heap.size]? = some (.cells #[.int .i64 x.frm, .int .i64 g, .int .i64 t] 48) ∧ Below w.heap.size w wr) (fun _ i _ => t - (intOf i).toNat)
              case atStart => exact ⟨0, Nat.zero_le _, rfl, by (rw [Nat.zero_mul, Nat.add_zero, List.replicate_zero, List.flatten_nil, List.append_nil]; exact HOWN.out.alloc _), by (show (wp.heap.push _)[wp.heap.size]? = _; exact Array.getElem?_push_size), hB3.alloc hz3 _⟩
              case round =>
                obtain ⟨j, hj, rfl, hown4, e0, hB4⟩ := hrel
                have e1 : wr.cell? ⟨wp.heap.size, 1, none⟩ = some (.int .i64 g) := by rw [cell_of_block e0]; rfl
                have E0 := hide e0
                have e2 : wp.heap.size < wr.heap.size := (Array.getElem?_eq_some_iff.1 e0).1
                clear e0
                have hz4 := hB4.size
                by_cases hlt4 : j < t
                · have hjg : j * g ≤ 200 * 200 := Nat.mul_le_mul (by omega) (by omega)
                  have HO4 := hide hown4
                  have hsrc := hide (((hl.below hB4).drop (i := q) (by omega)).first (i := g) (by omega))
                  have hrl := hide (show ((l.drop q).take g).length = g by rw [List.length_take, List.length_drop, HL.out]; omega)
                  clear hown4
                  go_wp2_with (at_builtin; refine wpList_append_own _ rfl (.tmp 74) (.tmp 78) 30 rfl w.heap.size 39 i0 (.agg #[.string ByteArray.empty, .string ByteArray.empty, .string ByteArray.empty, .int .i64 0, .int .i64 0, .bool false]) 6 72 Tryd.underlying30 hi0 iz0 iz1 iz2 rfl (by decide) _ (c + j * g) _ rfl HO4.out ⟨b, o + q * 6, none⟩ g _ (((l.drop q).take g).flatMap Frame.cs) rfl (by rw [flatMap_len (sz := 6) (fun _ => rfl), hrl.out]) (Sl.news (fun _ => rfl) hsrc.out) (frames_cells _) (by unfold maxLen; omega) (by omega) hz4 ?_; intro v' w5 hown5 hg5 _; have hB5 : Below w.heap.size w w5 := Below.grown hB4 hg5 hz4 (fun j hj => (World.ownsRow.lt HO4.out j hj).1); have e5 := (hg5.block _ e2 (own_other HO4.out E0.out (by decide)).symm).trans E0.out; clear hg5)
                  go_roundw
                  case rel => exact ⟨j + 1, by omega, by go_num, by rw [replicate_more, ← List.append_assoc, List.flatMap_append, Nat.succ_mul, ← Nat.add_assoc]; exact hown5, e5, hB5⟩
                  case measure => simp [intOf]; omega
                · obtain rfl : j = t := by omega
                  have HO4 := hide hown4
                  have hnl := hide (show c + j * g = (unfL l (rs.take (k3 + 1))).length by rw [HNX.out, List.length_append, ← HC.out, rep_flat_len, List.length_take, List.length_drop, HL.out]; congr 2; omega)
                  clear hown4
                  by_cases hcg : cap - q = g
                  · go_wp2_with (fail)
                    go_roundw
                    case rel => exact ⟨k3 + 1, q + g, c + j * g, _, by omega, by go_num, HQG.out.symm, hnl.out, slc rfl (by omega) (by omega), fun h0 => absurd h0 (by omega), by rw [HNX.out]; exact HO4.out, hB4⟩
                    case measure => simp [intOf]; omega
                  · go_wp2_with (fail)
                    go_roundw
                    case rel => exact ⟨k3 + 1, q + g, c + j * g, _, by omega, by go_num, HQG.out.symm, hnl.out, slc rfl (by omega) (by omega), fun _ => ⟨b, o, rfl, by rw [Nat.add_mul, Nat.add_assoc]⟩, by rw [HNX.out]; exact HO4.out, hB4⟩
                    case measure => simp [intOf]; omega
            · have htk : rs.take k3 = rs := take_len rs (by have := H2L.out; omega)
              rw [htk] at hown hc
              obtain ⟨A2', c2', rfl, hsl, _, _⟩ := sl_of_own (f := Frame.cs) (l := unfL l rs) (fun _ => rfl) hc.symm hown
              have HSL := hide hsl
              have HC := hide hc
              clear hown hsl hc hq hoa htk
              go_wp2_with (fail)
              go_ret2
              exact ⟨A2', c, c2', rfl, HSL.out, hB3⟩

end Go.Proofs.YtbfhicimjijdeaaDoor
