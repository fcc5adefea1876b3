/- Walks of stack.Unfold and inqref1.Unfolded where the runs are wrong (printed by gen_un.py). -/
import Derived.Test.YtbfhicimjijdeaaStRuns
namespace Go.Proofs.Ytbfhicimjijdeaa
open Go.RowKit
set_option linter.unusedVariables false
set_option maxRecDepth 100000 in
set_option maxHeartbeats 4000000 in
theorem Unfold_err (A : Option Addr) (n cap : Nat) (l : List Frame) (A2 : Option Addr) (m cap2 : Nat) (rs : List RunT) (w : World) (hn : n ≤ 200) (hm : m ≤ 5864062014805) (hl : Sl w w.heap.size Frame.cs 6 A n l) (hf : FramesFit l) (h2 : Sl w w.heap.size RunT.cs 3 A2 m rs) (hF : frsErr l = 0) (hE : unfErr n rs ≠ 0) :
    Calls Try.prog 7 #[.slice A n cap, .slice A2 m cap2] w fun e w' => e = .returned (.tuple #[.slice none 0 0, .int .i64 (unfErr n rs)]) ∧ Below w.heap.size w w' := by
  have HL := hide hl.len
  have H2L := hide h2.len
  have HE := hide hE
  clear hE
  have C := hide (fun W => checkFrames_any A n cap l W (by unfold maxLen; omega))
  have C := hide (show Calls Try.prog 34 #[.slice A n cap] w fun e w' => e = .returned (.int .i64 0) ∧ Below w.heap.size w w' by have := C.out w hl hf; rw [hF] at this; exact this)
  go_enter Try.func7, Try.ntmps7
  go_wp2_with (go_at_call 34; refine C.out.mono ?_; rintro r w0 ⟨rfl, hB0⟩)
  go_loopw [7, 23] (fun s i wr => ∃ k : Nat, k ≤ m ∧ i = .int .i64 k ∧ s = .int .i64 (sumLong (rs.take k)) ∧ (∀ x ∈ rs.take k, runOk x = true) ∧ Below w.heap.size w wr) (fun _ i _ => m - (intOf i).toNat)
  case atStart => exact ⟨0, Nat.zero_le _, rfl, rfl, by simp, hB0⟩
  case round =>
    obtain ⟨k, hk, rfl, rfl, hall, hB⟩ := hrel
    have hz := hB.size
    have hbd := sums_bd _ hall
    have hlen : (rs.take k).length ≤ k := List.length_take_le _ _
    obtain ⟨b0, b1, _, _⟩ := hbd
    have HALL := hide hall
    clear hall
    by_cases hlt : k < m
    · obtain ⟨bb, oo, x, rfl, hbb, hx, hc⟩ := (h2.below hB).at_ hlt
      have c0 := hc 0 _ rfl
      have c1 := hc 1 _ rfl
      have c2 := hc 2 _ rfl
      simp only [Nat.add_zero] at c0
      have HX := hide hx
      clear hc hx
      by_cases o1 : outsideB x.long 1 200 = true
      · have E := hide (unfErr_bad (n := n) (List.mem_of_getElem? HX.out) (by simp [runOk, o1]))
        go_wp2_with ((go_at_call 35; refine (outside_any _ _ _ _).mono ?_; rintro e w' ⟨rfl, rfl⟩))
        go_ret2
        exact ⟨by rw [E.out]; rfl, hB.alloc hz _⟩
      · by_cases o2 : outsideB x.times 1 200 = true
        · have E := hide (unfErr_bad (n := n) (List.mem_of_getElem? HX.out) (by simp [runOk, o2]))
          have o1' : outsideB x.long 1 200 = false := by simpa using o1
          go_wp2_with ((go_at_call 35; refine (outside_any _ _ _ _).mono ?_; rintro e w' ⟨rfl, rfl⟩))
          go_ret2
          exact ⟨by rw [E.out]; rfl, hB.alloc hz _⟩
        · have o1' : outsideB x.long 1 200 = false := by simpa using o1
          have o2' : outsideB x.times 1 200 = false := by simpa using o2
          have hok : runOk x = true := by simp [runOk, o1', o2']
          obtain ⟨⟨p0, p1⟩, _⟩ := (runOk_iff x).1 hok
          have HK := hide hok
          clear hok
          go_wp2_with ((go_at_call 35; refine (outside_any _ _ _ _).mono ?_; rintro e w' ⟨rfl, rfl⟩))
          go_roundw
          case rel => exact ⟨k + 1, by omega, by go_num, by rw [take_succ_get HX.out, sumLong_snoc], fun r hr => by (rw [take_succ_get HX.out, List.mem_append, List.mem_singleton] at hr); (rcases hr with hr | rfl); exact HALL.out r hr; exact HK.out, hB.alloc hz _⟩
          case measure => simp [intOf]; omega
    · have ht : rs.take k = rs := take_len rs (by have := H2L.out; omega)
      rw [ht] at HALL b0 b1 hlen ⊢
      by_cases hs : sumLong rs = n
      · have HS := hide hs
        have hs1 : (sumLong rs != (n : Int)) = false := by simpa using hs
        have hs2 : (sumLong rs == (n : Int)) = true := by simpa using hs
        go_wp2_with (fail)
        clear hlt hk
        obtain ⟨wo, rfl⟩ : ∃ wo : World, wo = wr := ⟨_, rfl⟩
        go_loopw [10, 46] (fun s i wr => ∃ k : Nat, k ≤ m ∧ i = .int .i64 k ∧ s = .int .i64 (total (rs.take k)) ∧ (∀ j, j < k → chainAt rs j = 0) ∧ Below w.heap.size w wr) (fun _ i _ => m - (intOf i).toNat)
        case atStart => exact ⟨0, Nat.zero_le _, rfl, rfl, fun j hj => absurd hj (by omega), hB⟩
        case round =>
          obtain ⟨k2, hk2, rfl, rfl, hno, hB2⟩ := hrel
          have HNO := hide hno
          clear hno
          have hz2 := hB2.size
          have hbd2 := sums_bd (rs.take k2) (fun x hx => HALL.out x (List.mem_of_mem_take hx))
          have hlen2 : (rs.take k2).length ≤ k2 := List.length_take_le _ _
          obtain ⟨e0, _, e2, e3⟩ := hbd2
          by_cases hlt2 : k2 < m
          · obtain ⟨bb, oo, x, rfl, hbb, hx, hc⟩ := (h2.below hB2).at_ hlt2
            have c0 := hc 0 _ rfl
            have c1 := hc 1 _ rfl
            have c2 := hc 2 _ rfl
            simp only [Nat.add_zero] at c0
            have HX := hide hx
            obtain ⟨p0, p1⟩ := (runOk_iff x).1 (HALL.out x (List.mem_of_getElem? hx))
            obtain ⟨q0, q1, q2⟩ := mul_bd p0 p1
            clear hc hx
            by_cases hfr : x.frm = total (rs.take k2)
            · have HC := hide (show chainAt rs k2 = 0 by rw [chainAt, HX.out]; simp [hfr])
              have hfr' : (x.frm == total (rs.take k2)) = true := by simpa using hfr
              have hfr1 : (x.frm != total (rs.take k2)) = false := by simpa using hfr
              go_wp2_with (fail)
              go_roundw
              case rel => exact ⟨k2 + 1, by omega, by go_num, by rw [take_succ_get HX.out, total_snoc], fun j hj => by (by_cases e : j < k2); exact HNO.out j e; (obtain rfl : j = k2 := by omega); exact HC.out, hB2.alloc hz2 _⟩
              case measure => simp [intOf]; omega
            · have E := hide (unfErr_chain HALL.out HS.out HNO.out HX.out hfr)
              have hfr' : (x.frm == total (rs.take k2)) = false := by simpa using hfr
              have hfr1 : (x.frm != total (rs.take k2)) = true := by simpa using hfr
              go_wp2_with (fail)
              go_ret2
              exact ⟨by rw [E.out]; rfl, hB2.alloc hz2 _⟩
          · have ht2 : rs.take k2 = rs := take_len rs (by have := H2L.out; omega)
            have E0 := hide (unfErr_end HALL.out HS.out fun j hj => HNO.out j (by have := H2L.out; omega))
            rw [ht2]
            by_cases h200 : 200 < total rs
            · have E := hide (E0.out.trans (if_pos h200))
              go_wp2_with (fail)
              go_ret2
              exact ⟨by rw [E.out]; rfl, hB2⟩
            · exact absurd (E0.out.trans (if_neg h200)) HE.out
      · have E := hide (unfErr_sum HALL.out hs)
        have hs' : (sumLong rs == (n : Int)) = false := by simpa using hs
        have hs1 : (sumLong rs != (n : Int)) = true := by simpa using hs
        go_wp2_with (fail)
        go_ret2
        exact ⟨by rw [E.out]; rfl, hB⟩

set_option maxRecDepth 100000 in
set_option maxHeartbeats 4000000 in
theorem Unfolded_err (A : Option Addr) (n cap : Nat) (l : List Frame) (A2 : Option Addr) (m cap2 : Nat) (rs : List RunT) (w : World) (hn : n ≤ 200) (hm : m ≤ 5864062014805) (hl : Sl w w.heap.size Frame.cs 6 A n l) (hf : FramesFit l) (h2 : Sl w w.heap.size RunT.cs 3 A2 m rs) (hE : unfErr n rs ≠ 0) :
    Calls Try.prog 9 #[.slice A n cap, .slice A2 m cap2] w fun e w' => e = .returned (.tuple #[.slice none 0 0, .int .i64 (unfErr n rs)]) ∧ Below w.heap.size w w' := by
  have HL := hide hl.len
  have H2L := hide h2.len
  have HE := hide hE
  clear hE
  go_enter Try.func9, Try.ntmps9
  go_wp2_with (fail)
  go_loopw [6, 17] (fun s i wr => ∃ k : Nat, k ≤ m ∧ i = .int .i64 k ∧ s = .int .i64 (sumLong (rs.take k)) ∧ (∀ x ∈ rs.take k, runOk x = true) ∧ Below w.heap.size w wr) (fun _ i _ => m - (intOf i).toNat)
  case atStart => exact ⟨0, Nat.zero_le _, rfl, rfl, by simp, Below.refl _ _⟩
  case round =>
    obtain ⟨k, hk, rfl, rfl, hall, hB⟩ := hrel
    have hz := hB.size
    have hbd := sums_bd _ hall
    have hlen : (rs.take k).length ≤ k := List.length_take_le _ _
    obtain ⟨b0, b1, _, _⟩ := hbd
    have HALL := hide hall
    clear hall
    by_cases hlt : k < m
    · obtain ⟨bb, oo, x, rfl, hbb, hx, hc⟩ := (h2.below hB).at_ hlt
      have c0 := hc 0 _ rfl
      have c1 := hc 1 _ rfl
      have c2 := hc 2 _ rfl
      simp only [Nat.add_zero] at c0
      have HX := hide hx
      clear hc hx
      by_cases o1 : outsideB x.long 1 200 = true
      · have E := hide (unfErr_bad (n := n) (List.mem_of_getElem? HX.out) (by simp [runOk, o1]))
        go_wp2_with ((go_at_call 36; refine (in_any _ _ _ _).mono ?_; rintro e w' ⟨rfl, rfl⟩))
        go_ret2
        exact ⟨by rw [E.out]; rfl, hB.alloc hz _⟩
      · by_cases o2 : outsideB x.times 1 200 = true
        · have E := hide (unfErr_bad (n := n) (List.mem_of_getElem? HX.out) (by simp [runOk, o2]))
          have o1' : outsideB x.long 1 200 = false := by simpa using o1
          go_wp2_with ((go_at_call 36; refine (in_any _ _ _ _).mono ?_; rintro e w' ⟨rfl, rfl⟩))
          go_ret2
          exact ⟨by rw [E.out]; rfl, hB.alloc hz _⟩
        · have o1' : outsideB x.long 1 200 = false := by simpa using o1
          have o2' : outsideB x.times 1 200 = false := by simpa using o2
          have hok : runOk x = true := by simp [runOk, o1', o2']
          obtain ⟨⟨p0, p1⟩, _⟩ := (runOk_iff x).1 hok
          have HK := hide hok
          clear hok
          go_wp2_with ((go_at_call 36; refine (in_any _ _ _ _).mono ?_; rintro e w' ⟨rfl, rfl⟩))
          go_roundw
          case rel => exact ⟨k + 1, by omega, by go_num, by rw [take_succ_get HX.out, sumLong_snoc], fun r hr => by (rw [take_succ_get HX.out, List.mem_append, List.mem_singleton] at hr); (rcases hr with hr | rfl); exact HALL.out r hr; exact HK.out, hB.alloc hz _⟩
          case measure => simp [intOf]; omega
    · have ht : rs.take k = rs := take_len rs (by have := H2L.out; omega)
      rw [ht] at HALL b0 b1 hlen ⊢
      by_cases hs : sumLong rs = n
      · have HS := hide hs
        have hs1 : (sumLong rs != (n : Int)) = false := by simpa using hs
        have hs2 : (sumLong rs == (n : Int)) = true := by simpa using hs
        go_wp2_with (fail)
        clear hlt hk
        obtain ⟨wo, rfl⟩ : ∃ wo : World, wo = wr := ⟨_, rfl⟩
        go_loopw [9, 42] (fun s i wr => ∃ k : Nat, k ≤ m ∧ i = .int .i64 k ∧ s = .int .i64 (total (rs.take k)) ∧ (∀ j, j < k → chainAt rs j = 0) ∧ Below w.heap.size w wr) (fun _ i _ => m - (intOf i).toNat)
        case atStart => exact ⟨0, Nat.zero_le _, rfl, rfl, fun j hj => absurd hj (by omega), hB⟩
        case round =>
          obtain ⟨k2, hk2, rfl, rfl, hno, hB2⟩ := hrel
          have HNO := hide hno
          clear hno
          have hz2 := hB2.size
          have hbd2 := sums_bd (rs.take k2) (fun x hx => HALL.out x (List.mem_of_mem_take hx))
          have hlen2 : (rs.take k2).length ≤ k2 := List.length_take_le _ _
          obtain ⟨e0, _, e2, e3⟩ := hbd2
          by_cases hlt2 : k2 < m
          · obtain ⟨bb, oo, x, rfl, hbb, hx, hc⟩ := (h2.below hB2).at_ hlt2
            have c0 := hc 0 _ rfl
            have c1 := hc 1 _ rfl
            have c2 := hc 2 _ rfl
            simp only [Nat.add_zero] at c0
            have HX := hide hx
            obtain ⟨p0, p1⟩ := (runOk_iff x).1 (HALL.out x (List.mem_of_getElem? hx))
            obtain ⟨q0, q1, q2⟩ := mul_bd p0 p1
            clear hc hx
            by_cases hfr : x.frm = total (rs.take k2)
            · have HC := hide (show chainAt rs k2 = 0 by rw [chainAt, HX.out]; simp [hfr])
              have hfr' : (x.frm == total (rs.take k2)) = true := by simpa using hfr
              have hfr1 : (x.frm != total (rs.take k2)) = false := by simpa using hfr
              go_wp2_with (fail)
              go_roundw
              case rel => exact ⟨k2 + 1, by omega, by go_num, by rw [take_succ_get HX.out, total_snoc], fun j hj => by (by_cases e : j < k2); exact HNO.out j e; (obtain rfl : j = k2 := by omega); exact HC.out, hB2.alloc hz2 _⟩
              case measure => simp [intOf]; omega
            · have E := hide (unfErr_chain HALL.out HS.out HNO.out HX.out hfr)
              have hfr' : (x.frm == total (rs.take k2)) = false := by simpa using hfr
              have hfr1 : (x.frm != total (rs.take k2)) = true := by simpa using hfr
              go_wp2_with (fail)
              go_ret2
              exact ⟨by rw [E.out]; rfl, hB2.alloc hz2 _⟩
          · have ht2 : rs.take k2 = rs := take_len rs (by have := H2L.out; omega)
            have E0 := hide (unfErr_end HALL.out HS.out fun j hj => HNO.out j (by have := H2L.out; omega))
            rw [ht2]
            by_cases h200 : 200 < total rs
            · have E := hide (E0.out.trans (if_pos h200))
              go_wp2_with (fail)
              go_ret2
              exact ⟨by rw [E.out]; rfl, hB2⟩
            · exact absurd (E0.out.trans (if_neg h200)) HE.out
      · have E := hide (unfErr_sum HALL.out hs)
        have hs' : (sumLong rs == (n : Int)) = false := by simpa using hs
        have hs1 : (sumLong rs != (n : Int)) = true := by simpa using hs
        go_wp2_with (fail)
        go_ret2
        exact ⟨by rw [E.out]; rfl, hB⟩

end Go.Proofs.Ytbfhicimjijdeaa
