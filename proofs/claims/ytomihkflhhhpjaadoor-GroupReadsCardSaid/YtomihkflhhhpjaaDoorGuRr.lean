/- What the reference says of rules. -/
import Derived.Test.YtomihkflhhhpjaaDoorGuRl
namespace Go.Proofs.YtomihkflhhhpjaaDoor
open Go.RowKit
set_option linter.unusedVariables false
set_option linter.unusedSimpArgs false
theorem inG_any (n lo hi : Int) (w : World) : Calls Tryd.prog 43 #[.int .i64 n, .int .i64 lo, .int .i64 hi] w fun e w' => e = .returned (.bool (!outG n lo hi)) ∧ w = w' := in_any n lo hi w
theorem plainG_any (s : ByteArray) (w : World) (hs : s.size ≤ maxLen) : Calls Tryd.prog 44 #[.string s] w fun e w' => e = .returned (.bool (textG s)) ∧ w = w' := by
  have CB := hide (bytesIn_any s 32 ⟨#[]⟩ w hs)
  have E := hide (show bytesInB s 32 (⟨#[]⟩ : ByteArray).data.toList = textG s by unfold bytesInB textG; simp)
  go_enter Tryd.func44, Tryd.ntmps44
  go_wp2_with (go_at_call 62; refine CB.out.mono ?_; rintro e w1 ⟨rfl, rfl⟩)
  go_ret
  exact ⟨by rw [← E.out]; rfl, rfl⟩
theorem rlE_ms {ms : List Mt} {ac : List Ac} {n n2 k : Nat} {m : Mt} {e : Int} (hl : ms.length = n) (hl2 : ac.length = n2) (h8 : ¬ 8 < n) (h8' : ¬ 8 < n2) (h0 : n2 ≠ 0) (hno : ∀ j, j < k → mtAt ms j = 0) (hk : k < n) (hm : ms[k]? = some m) (he : mtE m = e) (hne : e ≠ 0) : rlE ms ac = e := by
  have h1 : firstErr (mtAt ms) n = e := (firstErr_hit hno hk (by rw [mtAt_some hm, he]; exact hne)).trans ((mtAt_some hm).trans he)
  rw [rlE, if_neg (by omega), if_neg (by omega), hl, h1, if_pos hne]
theorem rlE_ac {ms : List Mt} {ac : List Ac} {n n2 k : Nat} {a : Ac} {e : Int} (hl : ms.length = n) (hl2 : ac.length = n2) (h8 : ¬ 8 < n) (h8' : ¬ 8 < n2) (h0 : n2 ≠ 0) (hz : firstErr (mtAt ms) n = 0) (hno : ∀ j, j < k → acAt ac j = 0) (hk : k < n2) (ha : ac[k]? = some a) (he : acE a = e) (hne : e ≠ 0) : rlE ms ac = e := by
  have h1 : firstErr (acAt ac) n2 = e := (firstErr_hit hno hk (by rw [acAt_some ha, he]; exact hne)).trans ((acAt_some ha).trans he)
  rw [rlE, if_neg (by omega), if_neg (by omega), hl, hz, if_neg (by simp), hl2, h1]
theorem rlE_ok {ms : List Mt} {ac : List Ac} {n n2 : Nat} (hl : ms.length = n) (hl2 : ac.length = n2) (h8 : ¬ 8 < n) (h8' : ¬ 8 < n2) (h0 : n2 ≠ 0) (hz : firstErr (mtAt ms) n = 0) (hz2 : firstErr (acAt ac) n2 = 0) : rlE ms ac = 0 := by
  rw [rlE, if_neg (by omega), if_neg (by omega), hl, hz, if_neg (by simp), hl2, hz2]
theorem rlsE_hit {l : List Rul} {n k : Nat} {x : Rul} {e : Int} (hl : l.length = n) (h1 : ¬ 100 < n) (hno : ∀ j, j < k → rlAt l j = 0) (hk : k < n) (hx : l[k]? = some x) (he : rlE x.ms x.ac = e) (hne : e ≠ 0) : rlsE l = e := by
  rw [rlsE, if_neg (by omega), hl, firstErr_hit hno hk (by rw [rlAt_some hx, he]; exact hne), rlAt_some hx, he]
set_option maxRecDepth 100000 in
set_option maxHeartbeats 8000000 in
theorem RulesError_any (A : Option Addr) (n c : Nat) (l : List Rul) (w : World) (hn : n ≤ maxLen) (hs : Sl w w.heap.size Rul.cs 2 A n l) (hok : RulesOk w l) :
    Calls Tryd.prog 17 #[.slice A n c] w fun e w' => e = .returned (.int .i64 (rlsE l)) ∧ Below w.heap.size w w' := by
  have HL1 := hide hs.len
  have HS := hide hs
  have HOK := hide hok
  clear hs hok
  unfold maxLen at hn
  by_cases h1 : 100 < n
  · have E := hide (show rlsE l = 4 by rw [rlsE, if_pos (by rw [HL1.out]; exact h1)])
    have h1' : (100 : Int) < (n : Int) := by omega
    go_enter Tryd.func17, Tryd.ntmps17
    go_wp2_with (fail)
    go_ret
    exact ⟨by rw [E.out]; rfl, Below.refl _ _⟩
  · have H1 := hide h1
    have ER := hide (show rlsE l = firstErr (rlAt l) n by rw [rlsE, if_neg (by rw [HL1.out]; exact h1), HL1.out])
    have h1' : ¬ (100 : Int) < (n : Int) := by omega
    clear h1
    go_enter Tryd.func17, Tryd.ntmps17
    go_wp2_with (fail)
    go_loopw [14] (fun i wr => ∃ k : Nat, k ≤ n ∧ i = .int .i64 k ∧ (∀ j, j < k → rlAt l j = 0) ∧ Below w.heap.size w wr) (fun i _ => n - (intOf i).toNat)
    case atStart => exact ⟨0, Nat.zero_le _, rfl, fun j hj => absurd hj (by omega), Below.refl _ _⟩
    case round =>
      obtain ⟨k, hk, rfl, hno, hB⟩ := hrel
      rename World => wq
      have HNO := hide hno
      clear hno
      have HB0 := hide hB
      by_cases hlt : k < n
      · obtain ⟨bb, oo, x, hA, hbb, hx, hc⟩ := (HS.out.below hB).at_ hlt
        have c0 := hc 0 _ rfl
        have c1 := hc 1 _ rfl
        simp only [Nat.add_zero] at c0
        have hxo := HOK.out x (List.mem_of_getElem? hx)
        have HHIT := hide (fun (e : Int) (he : rlE x.ms x.ac = e) (hne : e ≠ 0) => rlsE_hit HL1.out H1.out HNO.out hlt hx he hne)
        have HX := hide hx
        have hlt' : (k : Int) < (n : Int) := by omega
        clear hc hx
        subst hA
        obtain ⟨XA, xn, xc, ms, XA2, xn2, xc2, ac⟩ := x
        obtain ⟨hxn, hxs, hfm, hxn2, hxs2, hfa⟩ := hxo
        simp only at c0 c1 hxn hxs hfm hxn2 hxs2 hfa HHIT
        obtain ⟨wa, hwa⟩ : ∃ wa, wq.alloc (.cells #[.slice XA xn xc, .slice XA2 xn2 xc2] 44) = wa := ⟨_, rfl⟩
        have HBW := hide (show Below w.heap.size w wa from hwa ▸ hB.alloc hB.size _)
        have HBX := hide (show wa.heap[wq.heap.size]? = some (.cells #[.slice XA xn xc, .slice XA2 xn2 xc2] 44 (0, 0)) from hwa ▸ heap_alloc_new wq _)
        have HS1 := hide (hxs.up HBW.out)
        have HS2 := hide (hxs2.up HBW.out)
        have HLM := hide hxs.len
        have HLA := hide hxs2.len
        have HF1 := hide hfm
        have HF2 := hide hfa
        have hzw := HBW.out.size
        have HBR := hide (show ∀ W, Below wa.heap.size wa W → Below w.heap.size w W from fun W h => HBW.out.trans (h.mono hzw))
        unfold maxLen at hxn hxn2
        have x0 : wa.cell? ⟨wq.heap.size, 0, none⟩ = some (.slice XA xn xc) := (block_cell HBX.out 0).trans rfl
        have x1 : wa.cell? ⟨wq.heap.size, 1, none⟩ = some (.slice XA2 xn2 xc2) := (block_cell HBX.out 1).trans rfl
        have HWA := hide hwa
        clear hxs hxs2 hfm hfa hB
        by_cases h8 : 8 < xn
        · have h8' : (8 : Int) < (xn : Int) := by omega
          have E := hide (HHIT.out 4 (by rw [rlE, if_pos (by rw [HLM.out]; exact .inl h8)]) (by decide))
          clear h8 hwa
          go_wp2_with (fail)
          go_ret
          exact ⟨by rw [E.out]; rfl, by rw [HWA.out]; exact HBW.out⟩
        · have h8' : ¬ (8 : Int) < (xn : Int) := by omega
          by_cases h9 : 8 < xn2
          · have h9' : (8 : Int) < (xn2 : Int) := by omega
            have E := hide (HHIT.out 4 (by rw [rlE, if_pos (by rw [HLA.out]; exact .inr h9)]) (by decide))
            clear h8 h9 hwa
            go_wp2_with (fail)
            go_ret
            exact ⟨by rw [E.out]; rfl, by rw [HWA.out]; exact HBW.out⟩
          · have h9' : ¬ (8 : Int) < (xn2 : Int) := by omega
            by_cases h0 : xn2 = 0
            · have E := hide (HHIT.out 7 (by rw [rlE, if_neg (by rw [HLM.out, HLA.out]; omega), if_pos (by rw [HLA.out]; exact h0)]) (by decide))
              clear h8 h9 hwa
              subst h0
              go_wp2_with (fail)
              go_ret
              exact ⟨by rw [E.out]; rfl, by rw [HWA.out]; exact HBW.out⟩
            · have h0' : ((xn2 : Int) == 0) = false := beq_eq_false_iff_ne.2 (by omega)
              have HM := hide (fun (i : Nat) (m : Mt) (e : Int) (hno : ∀ j, j < i → mtAt ms j = 0) (hi : i < xn) (hm : ms[i]? = some m) (he : mtE m = e) (hne : e ≠ 0) => HHIT.out e (rlE_ms HLM.out HLA.out h8 h9 h0 hno hi hm he hne) hne)
              have HC := hide (fun (i : Nat) (a : Ac) (e : Int) (hz : firstErr (mtAt ms) xn = 0) (hno : ∀ j, j < i → acAt ac j = 0) (hi : i < xn2) (ha : ac[i]? = some a) (he : acE a = e) (hne : e ≠ 0) => HHIT.out e (rlE_ac HLM.out HLA.out h8 h9 h0 hz hno hi ha he hne) hne)
              have HK := hide (fun (hz : firstErr (mtAt ms) xn = 0) (hz2 : firstErr (acAt ac) xn2 = 0) => (rlAt_some HX.out).trans (rlE_ok HLM.out HLA.out h8 h9 h0 hz hz2))
              clear h8 h9 h0 hwa
              go_wp2_with (fail)
              (try rw [HWA.out])
              go_loopw [35] (fun ti wi => ∃ i : Nat, i ≤ xn ∧ ti = .int .i64 i ∧ (∀ j, j < i → mtAt ms j = 0) ∧ Below wa.heap.size wa wi) (fun ti _ => xn - (intOf ti).toNat)
              case atStart => exact ⟨0, Nat.zero_le _, rfl, fun j hj => absurd hj (by omega), Below.refl _ _⟩
              case round =>
                obtain ⟨i, hi, rfl, hno, hB⟩ := hrel
                have HNI := hide hno
                have HBI := hide hB
                have hzi := hB.size
                clear hno
                by_cases hit : i < xn
                · obtain ⟨b2, o2, m, hA2, hbb2, hx2, hc2⟩ := (HS1.out.below hB).at_ hit
                  have d0 := hc2 0 _ rfl
                  have d1 := hc2 1 _ rfl
                  have d2 := hc2 2 _ rfl
                  simp only [Nat.add_zero] at d0
                  have HX2 := hide hx2
                  have hfit := HF1.out m (List.mem_of_getElem? hx2)
                  have CT := hide (fun W => plainG_any m.glob W hfit)
                  have HE := hide (fun (e : Int) (he : mtE m = e) (hne : e ≠ 0) => HM.out i m e HNI.out hit HX2.out he hne)
                  have hit' : (i : Int) < (xn : Int) := by omega
                  unfold maxLen at hfit
                  clear hc2 hx2 hB
                  subst hA2
                  obtain ⟨on, no, g⟩ := m
                  simp only at d0 d1 d2 hfit CT HE
                  go_wp2_with (first | (go_at_call 43; refine (inG_any _ _ _ _).mono ?_; rintro e w1 ⟨rfl, rfl⟩) | (go_at_call 44; refine (CT.out _).mono ?_; rintro e w1 ⟨rfl, rfl⟩))
                  all_goals first
                    | (go_ret; refine ⟨congrArg (fun v => Ending.returned (Value.int IntKind.i64 v)) (HE.out _ ?_ (by decide)).symm, HBR.out _ (HBI.out.alloc hzi _)⟩; (unfold mtE empG; (repeat' split) <;> (first | rfl | (simp_all [outG]; done) | (simp_all [outG]; omega))))
                    | (refine ⟨⟨i + 1, by omega, by go_num, fun j hj => ?_, HBI.out.alloc hzi _⟩, by simp [intOf]; omega⟩; by_cases ej : j < i; (exact HNI.out j ej); (obtain rfl : i = j := by omega); rw [mtAt_some HX2.out]; (unfold mtE empG; (repeat' split) <;> (first | rfl | (simp_all [outG]; done) | (simp_all [outG]; omega))))
                · obtain rfl : xn = i := by omega
                  have HZ1 := hide (firstErr_zero HNI.out)
                  have hit' : ¬ (xn : Int) < (xn : Int) := by omega
                  have y1 : wr.cell? ⟨wq.heap.size, 1, none⟩ = some (.slice XA2 xn2 xc2) := (block_cell (block_below HBX.out hB) 1).trans rfl
                  clear hB
                  go_wp2_with (fail)
                  have HBM := hide HBI.out
                  clear HBI HNI
                  rename World => wo
                  go_loopw [67] (fun ti wi => ∃ i : Nat, i ≤ xn2 ∧ ti = .int .i64 i ∧ (∀ j, j < i → acAt ac j = 0) ∧ Below wa.heap.size wa wi) (fun ti _ => xn2 - (intOf ti).toNat)
                  case atStart => exact ⟨0, Nat.zero_le _, rfl, fun j hj => absurd hj (by omega), HBM.out⟩
                  case round =>
                    obtain ⟨i, hi, rfl, hno, hB⟩ := hrel
                    have HNI := hide hno
                    have HBI := hide hB
                    have hzi := hB.size
                    clear hno
                    by_cases hit : i < xn2
                    · obtain ⟨b2, o2, m, hA2, hbb2, hx2, hc2⟩ := (HS2.out.below hB).at_ hit
                      have d0 := hc2 0 _ rfl
                      have d1 := hc2 1 _ rfl
                      have d2 := hc2 2 _ rfl
                      simp only [Nat.add_zero] at d0
                      have HX2 := hide hx2
                      have hfit := HF2.out m (List.mem_of_getElem? hx2)
                      have CT := hide (fun W => plainG_any m.text W hfit)
                      have HE := hide (fun (e : Int) (he : acE m = e) (hne : e ≠ 0) => HC.out i m e HZ1.out HNI.out hit HX2.out he hne)
                      have hit' : (i : Int) < (xn2 : Int) := by omega
                      unfold maxLen at hfit
                      clear hc2 hx2 hB
                      subst hA2
                      obtain ⟨dd, n9, g⟩ := m
                      simp only at d0 d1 d2 hfit CT HE
                      go_wp2_with (first | (go_at_call 43; refine (inG_any _ _ _ _).mono ?_; rintro e w1 ⟨rfl, rfl⟩) | (go_at_call 44; refine (CT.out _).mono ?_; rintro e w1 ⟨rfl, rfl⟩))
                      all_goals first
                        | (go_ret; refine ⟨congrArg (fun v => Ending.returned (Value.int IntKind.i64 v)) (HE.out _ ?_ (by decide)).symm, HBR.out _ (HBI.out.alloc hzi _)⟩; (unfold acE empG; (repeat' split) <;> (first | rfl | (simp_all [outG]; done) | (simp_all [outG]; omega))))
                        | (refine ⟨⟨i + 1, by omega, by go_num, fun j hj => ?_, HBI.out.alloc hzi _⟩, by simp [intOf]; omega⟩; by_cases ej : j < i; (exact HNI.out j ej); (obtain rfl : i = j := by omega); rw [acAt_some HX2.out]; (unfold acE empG; (repeat' split) <;> (first | rfl | (simp_all [outG]; done) | (simp_all [outG]; omega))))
                    · obtain rfl : xn2 = i := by omega
                      have HZ2 := hide (HK.out HZ1.out (firstErr_zero HNI.out))
                      have hit' : ¬ (xn2 : Int) < (xn2 : Int) := by omega
                      clear hB
                      go_wp2_with (fail)
                      go_roundw
                      case rel => exact ⟨k + 1, by omega, by go_num, fun j hj => by (by_cases e : j < k); exact HNO.out j e; (obtain rfl : j = k := by omega); exact HZ2.out, HBR.out _ HBI.out⟩
                      case measure => simp [intOf]; omega
      · obtain rfl : n = k := by omega
        have HZ := hide (firstErr_zero HNO.out)
        have hlt' : ¬ (n : Int) < (n : Int) := by omega
        clear hB
        go_wp2_with (fail)
        go_ret
        exact ⟨by rw [ER.out, HZ.out]; rfl, HB0.out⟩
end Go.Proofs.YtomihkflhhhpjaaDoor
