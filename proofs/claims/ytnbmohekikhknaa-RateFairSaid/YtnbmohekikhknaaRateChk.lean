/- Walk of checkShares: a map of the keys that came. -/
import Derived.Test.YtnbmohekikhknaaRateErr
namespace Go.Proofs.Ytnbmohekikhknaa
open Go.RowKit Go.Maps
theorem law_str : Keyed Try.prog 9 := string_keyed Try.underlying9
theorem zero_bool (w : World) : (zeroValue 4).run Try.prog w = .ok (.bool false) w := by kernel_rfl
/-- The first k keys lie in the map at block B. -/
def HasKeys (w : World) (B : Nat) (l : List Share) (k : Nat) : Prop := w.ownsMap (H := Unit) Try.prog 9 (plainElem Try.prog 4) B k (seenD (keysOf (l.take k)))
theorem keysOf_snoc {l : List Share} {k : Nat} {x : Share} (hx : l[k]? = some x) : keysOf (l.take (k + 1)) = keysOf (l.take k) ++ [x.key.data.toList] := by
  rw [take_succ_get hx]; simp [keysOf]
theorem key_of (s : ByteArray) (h : s.size ≤ maxLen) : keyOf Try.prog 9 (.string s) = some (.string s.data.toList) := Go.WideMaps.keyOf_string_mk Try.underlying9 h
theorem HasKeys.look {w : World} {B k : Nat} {l : List Share} (h : HasKeys w B l k) : w.ownsMap (H := Unit) Try.prog 9 (plainElem Try.prog 4) B k (seenD (keysOf (l.take k))) := h
set_option maxRecDepth 100000 in
set_option maxHeartbeats 2000000 in
theorem checkShares_any (A : Option Addr) (n cap : Nat) (l : List Share) (w : World) (hn : n ≤ maxLen) (hl : Sl w w.heap.size Share.cs 2 A n l) (hf : KeysFit l) :
    Calls Try.prog 41 #[.slice A n cap] w fun e w' => e = .returned (.int .i64 (shErr l)) ∧ Below w.heap.size w w' := by
  unfold maxLen at hn
  have HL := hide hl.len
  by_cases h : 200 < n
  · have E := hide (show shErr l = 4 by rw [shErr, if_pos (by rw [HL.out]; exact h)])
    go_enter Try.func41, Try.ntmps41
    go_wp2_with (fail)
    go_ret
    exact ⟨by rw [E.out]; rfl, Below.refl _ _⟩
  · have h200 : ¬ 200 < l.length := by rw [HL.out]; exact h
    have H200 := hide h200
    clear h200
    have hmm := @run_makeMap Try.prog
    go_enter Try.func41, Try.ntmps41
    go_wp2_with (fail)
    clear hmm
    go_loopw [13] (fun i wr => ∃ k : Nat, k ≤ n ∧ i = .int .i64 k ∧ (∀ j, j < k → shErrAt l j = 0) ∧ HasKeys wr w.heap.size l k ∧ Below w.heap.size w wr) (fun i _ => n - (intOf i).toNat)
    case atStart => exact ⟨0, Nat.zero_le _, rfl, fun j hj => absurd hj (by omega), World.ownsMap_made _ _ _ _, (Below.refl _ _).alloc (Nat.le_refl _) _⟩
    case round =>
      obtain ⟨k, hk, rfl, hno, hM, hB⟩ := hrel
      have HNO := hide hno
      clear hno
      by_cases hlt : k < n
      · have hlr := hl.below hB
        obtain ⟨bb, oo, x, rfl, hbb, hx, hc⟩ := hlr.at_ hlt
        have c0 := hc 0 _ rfl
        have c1 := hc 1 _ rfl
        simp only [Nat.add_zero] at c0
        have HX := hide hx
        have hz := hB.size
        have hkf : x.key.size ≤ maxLen := hf x (List.mem_of_getElem? hx)
        have hkl : k < l.length := by rw [HL.out]; exact hlt
        have CW := hide (fun W => checkKey_any x.key W hkf)
        have HM := hide hM
        have HKF := hide hkf
        have hbm : w.heap.size < wr.heap.size := World.ownsMap.lt hM
        clear hc hx hlr hM hkf
        by_cases hke : keyErr x.key = 0
        · rw [hke] at CW
          cases hany : anyKey (l.take k) x.key
          · have hcon : (keysOf (l.take k)).contains x.key.data.toList = false := by rw [← anyKey_keys]; exact hany
            have HC := hide hcon
            cases hout : outsideB x.came 0 1000000000
            · have HK := hide (shErrAt_none HX.out hke hany hout)
              clear hany hke hcon
              go_wp2_with (first | (go_at_call 49; refine (CW.out _).mono ?_; rintro e w' ⟨rfl, rfl⟩) | (go_at_call 33; refine (outside_any _ _ _ _).mono ?_; rintro e w' ⟨rfl, rfl⟩) | (at_lookup; go_must (refine wpList_lookup_seen _ rfl _ _ 85 rfl 9 4 law_str Try.underlying85 Try.underlying4 (zero_bool _) w.heap.size k _ rfl (HM.out.alloc _) x.key rfl (key_of _ HKF.out) ?_; rw [HC.out])) | (at_mapUpdate; go_must (refine wpList_mapUpdate_own _ rfl _ _ _ 85 rfl 9 4 law_str Try.underlying85 _ w.heap.size k _ rfl (HM.out.alloc _) (by unfold maxLen; omega) _ _ _ rfl rfl (key_of _ HKF.out) _ [] (plainElem_bool Try.underlying4 true) ?_; intro w1 hown1 hg1; have hB1 : Below w.heap.size w w1 := (hB.alloc hz _).grown hg1 (by simp; omega) (fun j hj => by cases hj; exact Nat.le_refl _); have y1 : w1.cell? ⟨wr.heap.size, 1, none⟩ = some (.int .i64 x.came) := (World.cell?_of_block (w := wr.alloc _) (hg1.block wr.heap.size (by simp) (by simp; omega))).trans (by simp); clear hg1)))
              go_roundw
              case rel => exact ⟨k + 1, by omega, by go_num, fun j hj => by (by_cases e : j < k); exact HNO.out j e; (obtain rfl : j = k := by omega); exact HK.out, by rw [HasKeys, keysOf_snoc HX.out, seenD_snoc]; exact hown1, hB1⟩
              case measure => simp [intOf]; omega
            · have E := hide (show shErr l = 2 from shErr_hit H200.out HNO.out hkl (shErrAt_range HX.out hke hany hout) (by decide))
              clear hany hke hcon
              go_wp2_with (first | (go_at_call 49; refine (CW.out _).mono ?_; rintro e w' ⟨rfl, rfl⟩) | (go_at_call 33; refine (outside_any _ _ _ _).mono ?_; rintro e w' ⟨rfl, rfl⟩) | (at_lookup; go_must (refine wpList_lookup_seen _ rfl _ _ 85 rfl 9 4 law_str Try.underlying85 Try.underlying4 (zero_bool _) w.heap.size k _ rfl (HM.out.alloc _) x.key rfl (key_of _ HKF.out) ?_; rw [HC.out])) | (at_mapUpdate; go_must (refine wpList_mapUpdate_own _ rfl _ _ _ 85 rfl 9 4 law_str Try.underlying85 _ w.heap.size k _ rfl (HM.out.alloc _) (by unfold maxLen; omega) _ _ _ rfl rfl (key_of _ HKF.out) _ [] (plainElem_bool Try.underlying4 true) ?_; intro w1 hown1 hg1; have hB1 : Below w.heap.size w w1 := (hB.alloc hz _).grown hg1 (by simp; omega) (fun j hj => by cases hj; exact Nat.le_refl _); have y1 : w1.cell? ⟨wr.heap.size, 1, none⟩ = some (.int .i64 x.came) := (World.cell?_of_block (w := wr.alloc _) (hg1.block wr.heap.size (by simp) (by simp; omega))).trans (by simp); clear hg1)))
              go_ret
              exact ⟨by rw [E.out]; rfl, hB1⟩
          · have hcon : (keysOf (l.take k)).contains x.key.data.toList = true := by rw [← anyKey_keys]; exact hany
            have HC := hide hcon
            have E := hide (show shErr l = 6 from shErr_hit H200.out HNO.out hkl (shErrAt_twice HX.out hke hany) (by decide))
            clear hany hke hcon
            go_wp2_with (first | (go_at_call 49; refine (CW.out _).mono ?_; rintro e w' ⟨rfl, rfl⟩) | (at_lookup; go_must (refine wpList_lookup_seen _ rfl _ _ 85 rfl 9 4 law_str Try.underlying85 Try.underlying4 (zero_bool _) w.heap.size k _ rfl (HM.out.alloc _) x.key rfl (key_of _ HKF.out) ?_; rw [HC.out])))
            go_ret
            exact ⟨by rw [E.out]; rfl, hB.alloc hz _⟩
        · have E := hide (show shErr l = keyErr x.key from shErr_hit H200.out HNO.out hkl (shErrAt_key HX.out hke) hke)
          go_wp2_with (first | (go_at_call 49; refine (CW.out _).mono ?_; rintro e w' ⟨rfl, rfl⟩))
          go_ret
          exact ⟨by rw [E.out]; rfl, hB.alloc hz _⟩
      · have E := hide (show shErr l = 0 from shErr_none H200.out fun j hj => HNO.out j (by have := HL.out; omega))
        go_wp2_with (fail)
        go_ret
        exact ⟨by rw [E.out]; rfl, hB⟩
end Go.Proofs.Ytnbmohekikhknaa
