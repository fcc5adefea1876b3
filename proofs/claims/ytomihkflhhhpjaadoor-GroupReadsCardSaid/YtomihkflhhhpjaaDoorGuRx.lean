/- The reference's reading of rules: RulesRead. -/
import Derived.Test.YtomihkflhhhpjaaDoorGuSpL
import Derived.Test.YtomihkflhhhpjaaDoorGuRr
import Derived.Test.YtomihkflhhhpjaaDoorGuRq
namespace Go.Proofs.YtomihkflhhhpjaaDoor
open Go.RowKit
set_option linter.unusedVariables false
set_option linter.unusedSimpArgs false
theorem drop_last {L : List ByteArray} {N : Nat} {x : ByteArray} (hL : L.length = N + 1) (hx : L[N]? = some x) : L.drop N = [x] := by
  rw [List.getElem?_eq_some_iff] at hx
  obtain ⟨h, e⟩ := hx
  rw [List.drop_eq_getElem_cons h, e, List.drop_eq_nil_of_le (by omega)]
theorem drop_step {L : List ByteArray} {N j : Nat} {x : ByteArray} (hL : L.length = N + 1) (hj : j < N) (hx : L[j]? = some x) : L.drop j = x :: L.drop (j + 1) ∧ L.drop (j + 1) ≠ [] := by
  rw [List.getElem?_eq_some_iff] at hx
  obtain ⟨h, e⟩ := hx
  refine ⟨by rw [List.drop_eq_getElem_cons h, e], fun h9 => ?_⟩
  have := congrArg List.length h9
  rw [List.length_drop] at this
  simp at this
  omega
set_option maxRecDepth 100000 in
set_option maxHeartbeats 8000000 in
theorem RulesRead_any {t : ByteArray} {w : World} (hM : Mx w) :
    Calls Tryd.prog 6 #[.string t] w fun e w' => RRs t e w w' := by
  by_cases hbig : (1000000 : Int) < (t.size : Int)
  · have E := hide (show rdRules t = .error (0, 4) by rw [rdRules, if_pos (by omega)])
    have hbig' : (t.size : Int) > 1000000 := hbig
    go_enter Tryd.func6, Tryd.ntmps6
    go_wp2_with (fail)
    refine bodyPost_ret (by simp [results, Tryd.results6, go_sem]; try rfl) rfl ?_
    exact ⟨Below.refl _ _, by rw [E.out]; rfl⟩
  · obtain ⟨i0, hi0, iz0, iz1, iz2⟩ := ia_parts info_rule
    have htl := tsz t
    have ht : t.size ≤ 1000000 := by omega
    have hbig' : ¬ (t.size : Int) > 1000000 := hbig
    have HM := hide (fun W (hb : Below w.heap.size w W) => hM.up hb (Nat.le_refl _))
    have ER := hide (rdRules_lines t (by omega))
    have hLm := linesOf_size _ t (Nat.lt_succ_self _)
    have hLn := linesOf_len t
    have hNc := count_le9 t
    have CS := hide (show Calls Tryd.prog 15 #[.string t, .string ⟨#[10]⟩] w fun e w' => e = .returned (.slice (some ⟨w.heap.size, 0, none⟩) (Lib.countB t nlB + 1) (Lib.countB t nlB + 1)) ∧ w' = w.alloc (.cells ((linesOf t).map Value.string).toArray 9) from by
      obtain ⟨m, hm⟩ := hM
      exact Tryd.strings_Split t ⟨#[10]⟩ m w (by omega) hm (by decide))
    obtain ⟨N, hN⟩ : ∃ N, Lib.countB t nlB = N := ⟨_, rfl⟩
    obtain ⟨L, hL⟩ : ∃ L, linesOf t = L := ⟨_, rfl⟩
    rw [hN] at CS hLn hNc
    rw [hL] at CS hLm hLn ER
    obtain ⟨wl, hwl⟩ : ∃ wl, w.alloc (.cells (L.map Value.string).toArray 9) = wl := ⟨_, rfl⟩
    have HWB := hide (show Below w.heap.size w wl from hwl ▸ (Below.refl _ _).alloc (Nat.le_refl _) _)
    have HWL := hide (show wl.heap[w.heap.size]? = some (.cells (L.map Value.string).toArray 9 (0, 0)) from hwl ▸ heap_alloc_new w _)
    rw [hwl] at CS
    have HLM := hide hLm
    have HLN := hide hLn
    clear hM hbig hN hL hwl hLm
    go_enter Tryd.func6, Tryd.ntmps6
    go_wp2_with (go_at_call 15; refine CS.out.mono ?_; rintro e w2 ⟨rfl, hh⟩; obtain rfl := hh.symm)
    go_loopw [6, 23] (fun v6 v23 wr => ∃ (xs : List Rul) (A : Option Addr) (c : Nat), v6 = .slice A xs.length c ∧ v23 = .int .i64 (xs.length : Int) ∧ xs.length ≤ N ∧ Below w.heap.size w wr ∧ wr.heap[w.heap.size]? = some (.cells (L.map Value.string).toArray 9 (0, 0)) ∧
      wr.ownsRow w.heap.size 44 2 (.slice A xs.length c) xs.length (xs.flatMap Rul.cs) ∧ (∀ x ∈ xs, RlO w.heap.size x wr) ∧ rfL L 1 [] = rfL (L.drop xs.length) (xs.length + 1) (xs.map Rul.pr)) (fun _ v23 _ => N - (intOf v23).toNat)
    case atStart => exact ⟨[], none, 0, rfl, rfl, Nat.zero_le _, HWB.out, HWL.out, World.ownsRow_nil _ _ _ _, by simp, rfl⟩
    case round =>
      obtain ⟨xs, A, c, rfl, rfl, hjN, hbe, hblk, hown, hok, heq⟩ := hrel
      have HBE := hide hbe
      have HBL := hide hblk
      have HOW := hide hown
      have HOK := hide hok
      have hz := hbe.size
      have hzl := lt_of_block hblk
      obtain ⟨x0, hx0⟩ : ∃ x0, L[xs.length]? = some x0 := ⟨_, List.getElem?_eq_getElem (by rw [HLN.out]; omega)⟩
      have d0 : wr.cell? ⟨w.heap.size, xs.length, none⟩ = some (.string x0) := by rw [block_cell hblk]; simp [hx0]
      have hx0s : x0.size ≤ t.size := HLM.out x0 (List.mem_of_getElem? hx0)
      have HXL := hide (tsz x0)
      clear hbe hblk hown hok
      by_cases hlt : xs.length < N
      · have hlt' : (xs.length : Int) < (N : Int) := by omega
        have hd12 := drop_step HLN.out hlt hx0
        have EL := hide (heq.trans (show _ = match rdRule x0.data.toList with
          | none => .error (xs.length + 1)
          | some v => rfL (L.drop (xs.length + 1)) (xs.length + 1 + 1) (xs.map Rul.pr ++ [v]) by rw [hd12.1, rfL_cons hd12.2]; rfl))
        have CR := hide (ruleRead_any (t := x0) (w := wr) (by omega) (HM.out wr HBE.out))
        clear heq hd12 hx0
        go_wp2_with (fail)
        refine CR.out.mono ?_
        rintro e w5 ⟨hb5, hres⟩
        have HB5 := hide (HBE.out.trans (hb5.mono hz))
        have HOW5 := hide (own_below HOW.out hb5)
        have HOK5 := hide (fun x hx => (HOK.out x hx).below hb5)
        have HBL5 := hide (block_below HBL.out hb5)
        clear hb5
        rcases hres with ⟨hn, A1, n1, c1, A2, n2, c2, rfl⟩ | ⟨ms, ac, v1, v2, hs, rfl, o1, o2, l1, l2, g1, g2⟩
        · have E := hide (show rdRules t = .error (xs.length + 1, 8) by rw [ER.out, EL.out, hn])
          clear hn
          have HB6 := hide (HB5.out.alloc HB5.out.size (.cells #[.slice A1 n1 c1, .slice A2 n2 c2] 44))
          go_wp2_with (fail)
          refine bodyPost_ret (by simp [results, Tryd.results6, go_sem]; try rfl) rfl ?_
          refine ⟨HB6.out, ?_⟩
          rw [E.out]
          rfl
        · obtain ⟨A1, c1, rfl⟩ := own_sl o1
          obtain ⟨A2, c2, rfl⟩ := own_sl o2
          obtain ⟨x, hx⟩ : ∃ x : Rul, (⟨A1, ms.length, c1, ms, A2, ac.length, c2, ac⟩ : Rul) = x := ⟨_, rfl⟩
          have hxc : x.cs = [.slice A1 ms.length c1, .slice A2 ac.length c2] := by rw [← hx]; rfl
          have EN := hide (show rfL L 1 [] = rfL (L.drop (xs.length + 1)) (xs.length + 1 + 1) ((xs ++ [x]).map Rul.pr) by rw [EL.out, hs, List.map_append, ← hx]; rfl)
          have HXT := HXL.out
          have HX := hide (show RlO w.heap.size x w5 by
            rw [← hx]
            exact ⟨own_base o1 hz, own_base o2 hz, rfl, rfl, fun m hm => by have := g1 m hm; omega, fun m hm => by have := g2 m hm; omega, by show ms.length ≤ _; omega, by show ac.length ≤ _; omega⟩)
          clear o1 o2 g1 g2 hs hx HXT l1 l2
          have HO6 := hide (show (w5.alloc (.cells #[.slice A1 ms.length c1, .slice A2 ac.length c2] 44)).ownsRow _ _ _ _ _ _ from HOW5.out.alloc _)
          have HO7 := hide (show ((w5.alloc (.cells #[.slice A1 ms.length c1, .slice A2 ac.length c2] 44)).alloc (.cells #[.slice A1 ms.length c1, .slice A2 ac.length c2] 44)).ownsRow _ _ _ _ _ _ from HO6.out.alloc _)
          have hw57 : Below w5.heap.size w5 ((w5.alloc (.cells #[.slice A1 ms.length c1, .slice A2 ac.length c2] 44)).alloc (.cells #[.slice A1 ms.length c1, .slice A2 ac.length c2] 44)) := ((Below.refl _ _).alloc (Nat.le_refl _) _).alloc (by simp) _
          have HOK7 := hide (show ∀ y ∈ xs ++ [x], RlO w.heap.size y ((w5.alloc (.cells #[.slice A1 ms.length c1, .slice A2 ac.length c2] 44)).alloc (.cells #[.slice A1 ms.length c1, .slice A2 ac.length c2] 44)) from fun y hy => by
            rcases List.mem_append.1 hy with h | h
            · exact (HOK5.out y h).below hw57
            · rw [List.mem_singleton.1 h]; exact HX.out.below hw57)
          have HB7 := hide (HB5.out.trans (hw57.mono HB5.out.size))
          have HBL7 := hide (block_below HBL5.out hw57)
          have HM6 := hide (show (w5.alloc (.cells #[.slice A1 ms.length c1, .slice A2 ac.length c2] 44)).heap[w5.heap.size]? = some (.cells #[.slice A1 ms.length c1, .slice A2 ac.length c2] 44 (0, 0)) from heap_alloc_new w5 _)
          have m0 : (w5.alloc (.cells #[.slice A1 ms.length c1, .slice A2 ac.length c2] 44)).cell? ⟨w5.heap.size, 0, none⟩ = some (.slice A1 ms.length c1) := (block_cell HM6.out 0).trans rfl
          have m1 : (w5.alloc (.cells #[.slice A1 ms.length c1, .slice A2 ac.length c2] 44)).cell? ⟨w5.heap.size, 1, none⟩ = some (.slice A2 ac.length c2) := (block_cell HM6.out 1).trans rfl
          have hz5 := HB5.out.size
          clear hw57
          go_wp2_with (at_builtin; refine wpList_append_own_at _ rfl (.tmp 37) (.tmp 39) 22 rfl w.heap.size 44 i0 (.agg #[.slice none 0 0, .slice none 0 0]) 2 48 (by exact und_rule) hi0 iz0 iz1 iz2 rfl (by decide) (.slice A xs.length c) xs.length (xs.flatMap Rul.cs) rfl HO7.out ⟨(w5.alloc (.cells #[.slice A1 ms.length c1, .slice A2 ac.length c2] 44)).heap.size, 0, none⟩ 1 1 [.slice A1 ms.length c1, .slice A2 ac.length c2] (by first | rfl | go_simp) rfl (cells_at (w5.alloc (.cells #[.slice A1 ms.length c1, .slice A2 ac.length c2] 44)) [.slice A1 ms.length c1, .slice A2 ac.length c2] _ _ rfl) (by intro u hu; simp at hu; rcases hu with rfl | rfl <;> rfl) (by unfold maxLen; omega) (by omega) (by simp; omega) ?_; intro v8 w8 hown8 hg8 _ hat8; obtain ⟨A8, c8, rfl⟩ := own_sl hown8; have HOK8 := hide (fun y hy => (HOK7.out y hy).grown HO7.out hg8); have HB8 := hide (HB7.out.grown hg8 (by simp; omega) (fun k hk => (HO7.out.lt k hk).1)); have HBL8 := hide (grown_at hg8 HBL7.out (own_other' HO7.out HBL7.out (by decide))); have HOW8 := hide (show w8.ownsRow w.heap.size 44 2 (.slice A8 (xs ++ [x]).length c8) (xs ++ [x]).length ((xs ++ [x]).flatMap Rul.cs) by rw [List.flatMap_append, List.length_append, List.flatMap_singleton, hxc]; exact hown8); clear hown8 hg8 hat8)
          go_roundw
          case rel => exact ⟨xs ++ [x], A8, c8, by rw [List.length_append]; rfl, by rw [List.length_append]; go_num, by rw [List.length_append]; exact hlt, HB8.out, HBL8.out, HOW8.out, HOK8.out, by rw [List.length_append]; exact EN.out⟩
          case measure => simp [intOf]; omega
      · have hNx : N = xs.length := by omega
        have hld := drop_last (N := xs.length) (by rw [HLN.out, hNx]) hx0
        subst hNx
        have HSL := hide (show Sl wr wr.heap.size Rul.cs 2 A xs.length xs by
          obtain ⟨A', c', e9, s9, _⟩ := sl_of_own (f := Rul.cs) (fun _ => rfl) rfl HOW.out
          cases e9
          exact s9)
        have HRO := hide (show RulesOk wr xs from fun x hx => (HOK.out x hx).ok)
        have CC := hide (RulesError_any A xs.length c xs wr (by unfold maxLen; omega) HSL.out HRO.out)
        have EL := hide (heq.trans (show _ = if x0.size = 0 then .ok (xs.map Rul.pr) else .error (xs.length + 1) by rw [hld]; rfl))
        have hlt' : ¬ (xs.length : Int) < (xs.length : Int) := by omega
        clear heq hld hx0 hlt
        by_cases h0 : x0.size = 0
        · have e1 : x0.toList = [] := by rw [ByteArray.toList_eq]; exact empty_of h0
          have e2 : x0.toList.isEmpty = true := by rw [e1]; rfl
          have EL2 := hide (EL.out.trans (if_pos h0))
          by_cases hno : rlsE xs = 0
          · have E := hide (show rdRules t = .ok (xs.map Rul.pr) by rw [ER.out, EL2.out]; show (if _ then _ else _) = _; rw [if_pos (by rw [rlsP_pr]; exact hno)])
            rw [hno] at CC
            clear hno
            go_wp2_with (go_at_call 17; refine CC.out.mono ?_; rintro e w2 ⟨rfl, hb⟩; have HB2 := hide hb; clear hb)
            refine bodyPost_ret (by simp [results, Tryd.results6, go_sem]; try rfl) rfl ?_
            refine ⟨HBE.out.trans (HB2.out.mono hz), ?_⟩
            rw [E.out]
            exact ⟨A, c, xs, rfl, HSL.out.up HB2.out, HRO.out.up HB2.out, rfl, by omega⟩
          · have E := hide (show rdRules t = .error (0, rlsE xs) by rw [ER.out, EL2.out]; show (if _ then _ else _) = _; rw [if_neg (by rw [rlsP_pr]; exact hno), rlsP_pr])
            obtain ⟨no, hno2⟩ : ∃ no, rlsE xs = no := ⟨_, rfl⟩
            rw [hno2] at CC hno E
            have hno' : (no == 0) = false := beq_eq_false_iff_ne.2 hno
            clear hno2
            go_wp2_with (go_at_call 17; refine CC.out.mono ?_; rintro e w2 ⟨rfl, hb⟩; have HB2 := hide hb; clear hb)
            refine bodyPost_ret (by simp [results, Tryd.results6, go_sem]; try rfl) rfl ?_
            refine ⟨HBE.out.trans (HB2.out.mono hz), ?_⟩
            rw [E.out]
            rfl
        · have hs0 : 0 < x0.size := by omega
          have e1 : ¬ x0.toList = [] := by rw [ByteArray.toList_eq]; exact ne_nil hs0
          have e2 : x0.toList.isEmpty = false := by simpa using e1
          have E := hide (show rdRules t = .error (xs.length + 1, 8) by rw [ER.out, EL.out, if_neg h0])
          go_wp2_with (fail)
          refine bodyPost_ret (by simp [results, Tryd.results6, go_sem]; try rfl) rfl ?_
          refine ⟨HBE.out, ?_⟩
          rw [E.out]
          rfl
end Go.Proofs.YtomihkflhhhpjaaDoor
