/- Walk of CheckRules (printed by gen_a2.py). -/
import Derived.Test.YtpjfihdbbgencaaDoorAlErr
namespace Go.Proofs.YtpjfihdbbgencaaDoor
open Go.RowKit Go.Maps
set_option linter.unusedVariables false
theorem law_str : Keyed Tryd.prog 9 := string_keyed Tryd.underlying9
theorem zero_bool (w : World) : (zeroValue 4).run Tryd.prog w = .ok (.bool false) w := by kernel_rfl
/-- The first k names lie in the map at block B. -/
def HasNames (w : World) (B : Nat) (l : List Rl) (k : Nat) : Prop := w.ownsMap (H := Unit) Tryd.prog 9 (plainElem Tryd.prog 4) B k (seenD (rlKeys (l.take k)))
theorem rlKeys_snoc {l : List Rl} {k : Nat} {x : Rl} (hx : l[k]? = some x) : rlKeys (l.take (k + 1)) = rlKeys (l.take k) ++ [x.name.data.toList] := by
  rw [take_succ_get hx]; simp [rlKeys]
theorem key_of (s : ByteArray) (h : s.size ≤ maxLen) : keyOf Tryd.prog 9 (.string s) = some (.string s.data.toList) := Go.WideMaps.keyOf_string_mk Tryd.underlying9 h
theorem grown_of_below {w w' : World} (h : Below w.heap.size w w') : w.grownBy w' none := ⟨h.os, h.tape, h.output, h.size, fun k hk _ => h.block k hk⟩
set_option maxRecDepth 100000 in
set_option maxHeartbeats 8000000 in
theorem CheckRules_any (A : Option Addr) (n cap : Nat) (l : List Rl) (w : World) (hn : n ≤ maxLen) (hl : Sl w w.heap.size Rl.cs 7 A n l) (hf : RlFit l) :
    Calls Tryd.prog 6 #[.slice A n cap] w fun e w' => e = .returned (.int .i64 (rlErr l)) ∧ Below w.heap.size w w' := by
  have hn' := hn
  unfold maxLen at hn
  have HL := hide hl.len
  have HSL := hide hl
  clear hl
  by_cases h : 50 < n
  · have E := hide (show rlErr l = 4 by rw [rlErr, if_pos (by rw [HL.out]; exact h)])
    go_enter Tryd.func6, Tryd.ntmps6
    go_wp2_with (fail)
    go_ret
    exact ⟨by rw [E.out]; rfl, Below.refl _ _⟩
  · have h50 : ¬ 50 < l.length := by rw [HL.out]; exact h
    have H50 := hide h50
    clear h50
    have hmm := @run_makeMap Tryd.prog
    go_enter Tryd.func6, Tryd.ntmps6
    go_wp2_with (fail)
    clear hmm
    go_loopw [13] (fun i wr => ∃ k : Nat, k ≤ n ∧ i = .int .i64 k ∧ (∀ j, j < k → rlErrAt l j = 0) ∧ HasNames wr w.heap.size l k ∧ Below w.heap.size w wr) (fun i _ => n - (intOf i).toNat)
    case atStart => exact ⟨0, Nat.zero_le _, rfl, fun j hj => absurd hj (by omega), World.ownsMap_made _ _ _ _, (Below.refl _ _).alloc (Nat.le_refl _) _⟩
    case round =>
      obtain ⟨k, hk, rfl, hno, hM, hB⟩ := hrel
      have HNO := hide hno
      clear hno
      by_cases hlt : k < n
      · obtain ⟨bb, oo, x, rfl, hbb, hx, hc⟩ := (HSL.out.below hB).at_ hlt
        have hz := hB.size
        have hkf := hf x (List.mem_of_getElem? hx)
        have hkl : k < l.length := by rw [HL.out]; exact hlt
        have c0 : wr.cell? ⟨bb, oo + k * 7, none⟩ = some (.string x.name) := by simpa using hc 0 _ rfl
        have c1 : wr.cell? ⟨bb, oo + k * 7 + 1, none⟩ = some (.string x.key) := by simpa using hc 1 _ rfl
        have c2 : wr.cell? ⟨bb, oo + k * 7 + 2, none⟩ = some (.int .i64 x.ask) := by simpa using hc 2 _ rfl
        have c3 : wr.cell? ⟨bb, oo + k * 7 + 3, none⟩ = some (.int .i64 x.limit) := by simpa using hc 3 _ rfl
        have c4 : wr.cell? ⟨bb, oo + k * 7 + 4, none⟩ = some (.int .i64 x.window) := by simpa using hc 4 _ rfl
        have c5 : wr.cell? ⟨bb, oo + k * 7 + 5, none⟩ = some (.int .i64 x.hold) := by simpa using hc 5 _ rfl
        have c6 : wr.cell? ⟨bb, oo + k * 7 + 6, none⟩ = some (.int .i64 x.rest) := by simpa using hc 6 _ rfl
        have HX := hide hx
        have HBX := hide (heap_alloc_new wr (.cells #[.string x.name, .string x.key, .int .i64 x.ask, .int .i64 x.limit, .int .i64 x.window, .int .i64 x.hold, .int .i64 x.rest] 56))
        have HM := hide hM
        have HKF := hide hkf.1
        have hbm : w.heap.size < wr.heap.size := World.ownsMap.lt hM
        have CN := hide (fun W => evName_any x.name W hkf.1)
        have CR := hide (show ∀ W, Calls Tryd.prog 22 #[.agg #[.string x.name, .string x.key, .int .i64 x.ask, .int .i64 x.limit, .int .i64 x.window, .int .i64 x.hold, .int .i64 x.rest]] W fun e w' => e = .returned (.int .i64 (ruleErr x)) ∧ Below W.heap.size W w' from fun W => checkRule_any x W hkf.2)
        clear hc hx hM hkf
        cases hnm : nameB x.name
        · rw [hnm] at CN
          have E := hide (rlErr_hit H50.out HNO.out hkl (rlErrAt_name HX.out hnm) (by decide))
          clear hnm
          go_wp2_with (first | (go_at_call 21; refine (CN.out _).mono ?_; rintro r w1 ⟨rfl, hw1⟩; have hB1 : Below w.heap.size w w1 := hB.trans (((Below.refl _ _).alloc hz _).trans (hw1.mono (by simp; omega))); have HX1 := hide (block_below HBX.out hw1); have HM1 := hide ((HM.out.alloc (.cells #[.string x.name, .string x.key, .int .i64 x.ask, .int .i64 x.limit, .int .i64 x.window, .int .i64 x.hold, .int .i64 x.rest] 56)).kept (grown_of_below hw1) (by simp)); have hz1 := hB1.size; have y0 : w1.cell? ⟨wr.heap.size, 0, none⟩ = some (.string x.name) := (block_cell HX1.out 0).trans rfl; have y1 : w1.cell? ⟨wr.heap.size, 1, none⟩ = some (.string x.key) := (block_cell HX1.out 1).trans rfl; have y2 : w1.cell? ⟨wr.heap.size, 2, none⟩ = some (.int .i64 x.ask) := (block_cell HX1.out 2).trans rfl; have y3 : w1.cell? ⟨wr.heap.size, 3, none⟩ = some (.int .i64 x.limit) := (block_cell HX1.out 3).trans rfl; have y4 : w1.cell? ⟨wr.heap.size, 4, none⟩ = some (.int .i64 x.window) := (block_cell HX1.out 4).trans rfl; have y5 : w1.cell? ⟨wr.heap.size, 5, none⟩ = some (.int .i64 x.hold) := (block_cell HX1.out 5).trans rfl; have y6 : w1.cell? ⟨wr.heap.size, 6, none⟩ = some (.int .i64 x.rest) := (block_cell HX1.out 6).trans rfl; clear hw1))
          go_ret
          exact ⟨by rw [E.out]; rfl, hB1⟩
        rw [hnm] at CN
        cases hany : anyName (l.take k) x.name
        · have HC := hide (show (rlKeys (l.take k)).contains x.name.data.toList = false by rw [← anyName_keys]; exact hany)
          by_cases hre : ruleErr x = 0
          · rw [hre] at CR
            have HK := hide (rlErrAt_rule HX.out hnm hany hre)
            clear hnm hany hre
            go_wp2_with (first | (go_at_call 21; refine (CN.out _).mono ?_; rintro r w1 ⟨rfl, hw1⟩; have hB1 : Below w.heap.size w w1 := hB.trans (((Below.refl _ _).alloc hz _).trans (hw1.mono (by simp; omega))); have HX1 := hide (block_below HBX.out hw1); have HM1 := hide ((HM.out.alloc (.cells #[.string x.name, .string x.key, .int .i64 x.ask, .int .i64 x.limit, .int .i64 x.window, .int .i64 x.hold, .int .i64 x.rest] 56)).kept (grown_of_below hw1) (by simp)); have hz1 := hB1.size; have y0 : w1.cell? ⟨wr.heap.size, 0, none⟩ = some (.string x.name) := (block_cell HX1.out 0).trans rfl; have y1 : w1.cell? ⟨wr.heap.size, 1, none⟩ = some (.string x.key) := (block_cell HX1.out 1).trans rfl; have y2 : w1.cell? ⟨wr.heap.size, 2, none⟩ = some (.int .i64 x.ask) := (block_cell HX1.out 2).trans rfl; have y3 : w1.cell? ⟨wr.heap.size, 3, none⟩ = some (.int .i64 x.limit) := (block_cell HX1.out 3).trans rfl; have y4 : w1.cell? ⟨wr.heap.size, 4, none⟩ = some (.int .i64 x.window) := (block_cell HX1.out 4).trans rfl; have y5 : w1.cell? ⟨wr.heap.size, 5, none⟩ = some (.int .i64 x.hold) := (block_cell HX1.out 5).trans rfl; have y6 : w1.cell? ⟨wr.heap.size, 6, none⟩ = some (.int .i64 x.rest) := (block_cell HX1.out 6).trans rfl; clear hw1) | (at_lookup; refine wpList_lookup_seen _ rfl _ _ 54 rfl 9 4 law_str Tryd.underlying54 Tryd.underlying4 (zero_bool _) w.heap.size k _ rfl HM1.out x.name rfl (key_of _ HKF.out) ?_; rw [HC.out]) | (at_mapUpdate; refine wpList_mapUpdate_own _ rfl _ _ _ 54 rfl 9 4 law_str Tryd.underlying54 _ w.heap.size k _ rfl HM1.out (by unfold maxLen; omega) _ _ _ rfl rfl (key_of _ HKF.out) _ [] (plainElem_bool Tryd.underlying4 true) ?_; intro w2 hown2 hg2; have HM2 := hide hown2; have hB2 : Below w.heap.size w w2 := hB1.grown hg2 hz1 (fun j hj => by cases hj; exact Nat.le_refl _); have HX2 := (hg2.block wr.heap.size (lt_of_block HX1.out) (by simp; omega)).trans HX1.out; have hz2 := hB2.size; have y0 : w2.cell? ⟨wr.heap.size, 0, none⟩ = some (.string x.name) := (block_cell HX2 0).trans rfl; have y1 : w2.cell? ⟨wr.heap.size, 1, none⟩ = some (.string x.key) := (block_cell HX2 1).trans rfl; have y2 : w2.cell? ⟨wr.heap.size, 2, none⟩ = some (.int .i64 x.ask) := (block_cell HX2 2).trans rfl; have y3 : w2.cell? ⟨wr.heap.size, 3, none⟩ = some (.int .i64 x.limit) := (block_cell HX2 3).trans rfl; have y4 : w2.cell? ⟨wr.heap.size, 4, none⟩ = some (.int .i64 x.window) := (block_cell HX2 4).trans rfl; have y5 : w2.cell? ⟨wr.heap.size, 5, none⟩ = some (.int .i64 x.hold) := (block_cell HX2 5).trans rfl; have y6 : w2.cell? ⟨wr.heap.size, 6, none⟩ = some (.int .i64 x.rest) := (block_cell HX2 6).trans rfl; clear hg2 hown2 HX2) | (go_at_call 22; refine (CR.out _).mono ?_; rintro r w3 ⟨rfl, hw3⟩; have hB3 : Below w.heap.size w w3 := hB2.trans (hw3.mono hz2); have HM3 := hide (HM2.out.kept (grown_of_below hw3) (by simp)); clear hw3))
            go_roundw
            case rel => exact ⟨k + 1, by omega, by go_num, fun j hj => by (by_cases e : j < k); exact HNO.out j e; (obtain rfl : j = k := by omega); exact HK.out, by rw [HasNames, rlKeys_snoc HX.out, seenD_snoc]; exact HM3.out, hB3⟩
            case measure => simp [intOf]; omega
          · have hne : (ruleErr x == 0) = false := by simpa using hre
            have E := hide (rlErr_hit H50.out HNO.out hkl (rlErrAt_rule HX.out hnm hany rfl) hre)
            clear hnm hany
            go_wp2_with (first | (go_at_call 21; refine (CN.out _).mono ?_; rintro r w1 ⟨rfl, hw1⟩; have hB1 : Below w.heap.size w w1 := hB.trans (((Below.refl _ _).alloc hz _).trans (hw1.mono (by simp; omega))); have HX1 := hide (block_below HBX.out hw1); have HM1 := hide ((HM.out.alloc (.cells #[.string x.name, .string x.key, .int .i64 x.ask, .int .i64 x.limit, .int .i64 x.window, .int .i64 x.hold, .int .i64 x.rest] 56)).kept (grown_of_below hw1) (by simp)); have hz1 := hB1.size; have y0 : w1.cell? ⟨wr.heap.size, 0, none⟩ = some (.string x.name) := (block_cell HX1.out 0).trans rfl; have y1 : w1.cell? ⟨wr.heap.size, 1, none⟩ = some (.string x.key) := (block_cell HX1.out 1).trans rfl; have y2 : w1.cell? ⟨wr.heap.size, 2, none⟩ = some (.int .i64 x.ask) := (block_cell HX1.out 2).trans rfl; have y3 : w1.cell? ⟨wr.heap.size, 3, none⟩ = some (.int .i64 x.limit) := (block_cell HX1.out 3).trans rfl; have y4 : w1.cell? ⟨wr.heap.size, 4, none⟩ = some (.int .i64 x.window) := (block_cell HX1.out 4).trans rfl; have y5 : w1.cell? ⟨wr.heap.size, 5, none⟩ = some (.int .i64 x.hold) := (block_cell HX1.out 5).trans rfl; have y6 : w1.cell? ⟨wr.heap.size, 6, none⟩ = some (.int .i64 x.rest) := (block_cell HX1.out 6).trans rfl; clear hw1) | (at_lookup; refine wpList_lookup_seen _ rfl _ _ 54 rfl 9 4 law_str Tryd.underlying54 Tryd.underlying4 (zero_bool _) w.heap.size k _ rfl HM1.out x.name rfl (key_of _ HKF.out) ?_; rw [HC.out]) | (at_mapUpdate; refine wpList_mapUpdate_own _ rfl _ _ _ 54 rfl 9 4 law_str Tryd.underlying54 _ w.heap.size k _ rfl HM1.out (by unfold maxLen; omega) _ _ _ rfl rfl (key_of _ HKF.out) _ [] (plainElem_bool Tryd.underlying4 true) ?_; intro w2 hown2 hg2; have HM2 := hide hown2; have hB2 : Below w.heap.size w w2 := hB1.grown hg2 hz1 (fun j hj => by cases hj; exact Nat.le_refl _); have HX2 := (hg2.block wr.heap.size (lt_of_block HX1.out) (by simp; omega)).trans HX1.out; have hz2 := hB2.size; have y0 : w2.cell? ⟨wr.heap.size, 0, none⟩ = some (.string x.name) := (block_cell HX2 0).trans rfl; have y1 : w2.cell? ⟨wr.heap.size, 1, none⟩ = some (.string x.key) := (block_cell HX2 1).trans rfl; have y2 : w2.cell? ⟨wr.heap.size, 2, none⟩ = some (.int .i64 x.ask) := (block_cell HX2 2).trans rfl; have y3 : w2.cell? ⟨wr.heap.size, 3, none⟩ = some (.int .i64 x.limit) := (block_cell HX2 3).trans rfl; have y4 : w2.cell? ⟨wr.heap.size, 4, none⟩ = some (.int .i64 x.window) := (block_cell HX2 4).trans rfl; have y5 : w2.cell? ⟨wr.heap.size, 5, none⟩ = some (.int .i64 x.hold) := (block_cell HX2 5).trans rfl; have y6 : w2.cell? ⟨wr.heap.size, 6, none⟩ = some (.int .i64 x.rest) := (block_cell HX2 6).trans rfl; clear hg2 hown2 HX2) | (go_at_call 22; refine (CR.out _).mono ?_; rintro r w3 ⟨rfl, hw3⟩; have hB3 : Below w.heap.size w w3 := hB2.trans (hw3.mono hz2); have HM3 := hide (HM2.out.kept (grown_of_below hw3) (by simp)); clear hw3))
            go_ret
            exact ⟨by rw [E.out]; rfl, hB3⟩
        · have HC := hide (show (rlKeys (l.take k)).contains x.name.data.toList = true by rw [← anyName_keys]; exact hany)
          have E := hide (rlErr_hit H50.out HNO.out hkl (rlErrAt_twice HX.out hnm hany) (by decide))
          clear hnm hany
          go_wp2_with (first | (go_at_call 21; refine (CN.out _).mono ?_; rintro r w1 ⟨rfl, hw1⟩; have hB1 : Below w.heap.size w w1 := hB.trans (((Below.refl _ _).alloc hz _).trans (hw1.mono (by simp; omega))); have HX1 := hide (block_below HBX.out hw1); have HM1 := hide ((HM.out.alloc (.cells #[.string x.name, .string x.key, .int .i64 x.ask, .int .i64 x.limit, .int .i64 x.window, .int .i64 x.hold, .int .i64 x.rest] 56)).kept (grown_of_below hw1) (by simp)); have hz1 := hB1.size; have y0 : w1.cell? ⟨wr.heap.size, 0, none⟩ = some (.string x.name) := (block_cell HX1.out 0).trans rfl; have y1 : w1.cell? ⟨wr.heap.size, 1, none⟩ = some (.string x.key) := (block_cell HX1.out 1).trans rfl; have y2 : w1.cell? ⟨wr.heap.size, 2, none⟩ = some (.int .i64 x.ask) := (block_cell HX1.out 2).trans rfl; have y3 : w1.cell? ⟨wr.heap.size, 3, none⟩ = some (.int .i64 x.limit) := (block_cell HX1.out 3).trans rfl; have y4 : w1.cell? ⟨wr.heap.size, 4, none⟩ = some (.int .i64 x.window) := (block_cell HX1.out 4).trans rfl; have y5 : w1.cell? ⟨wr.heap.size, 5, none⟩ = some (.int .i64 x.hold) := (block_cell HX1.out 5).trans rfl; have y6 : w1.cell? ⟨wr.heap.size, 6, none⟩ = some (.int .i64 x.rest) := (block_cell HX1.out 6).trans rfl; clear hw1) | (at_lookup; refine wpList_lookup_seen _ rfl _ _ 54 rfl 9 4 law_str Tryd.underlying54 Tryd.underlying4 (zero_bool _) w.heap.size k _ rfl HM1.out x.name rfl (key_of _ HKF.out) ?_; rw [HC.out]))
          go_ret
          exact ⟨by rw [E.out]; rfl, hB1⟩
      · have E := hide (show rlErr l = 0 from rlErr_none H50.out fun j hj => HNO.out j (by have := HL.out; omega))
        go_wp2_with (fail)
        go_ret
        exact ⟨by rw [E.out]; rfl, hB⟩
end Go.Proofs.YtpjfihdbbgencaaDoor
