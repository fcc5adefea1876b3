/- find: whether a print is among others. -/
import Derived.Test.YtapfcnfmonknjaaGreatDoorBkMv
namespace Go.Proofs.YtapfcnfmonknjaaGreatDoor.Bk
open Go.RowKit Go.Maps Go.Sort
set_option linter.unusedVariables false
set_option linter.unusedSimpArgs false
theorem beq_str (a b : ByteArray) : (a.toList == b.toList) = decide (a.data.toList = b.data.toList) := by
  have e : ∀ x : ByteArray, x.toList = x.data.toList := fun x => ByteArray.toList_eq x
  rw [e, e]
  by_cases h : a.data.toList = b.data.toList
  · rw [h]; simp
  · rw [decide_eq_false h]; simpa using h
theorem Same_fn (t s : ByteArray) (b : Nat) (w : World) (hb : w.cell? ⟨b, 0, none⟩ = some (.string s)) :
    Calls Tryz.prog 36 #[.string t, .pointer (some ⟨b, 0, none⟩)] w fun e w' => e = .returned (.bool (decide (t.data.toList = s.data.toList))) ∧ w = w' := by
  have E := hide (beq_str t s)
  go_enter Tryz.func36, Tryz.ntmps36
  go_wp2_with (fail)
  go_ret
  exact ⟨ret_bool (by rw [← E.out]), rfl⟩
set_option maxRecDepth 100000 in
set_option maxHeartbeats 4000000 in
theorem Find_any (A : Option Addr) (n c : Nat) (ps : List (List UInt8)) (s : ByteArray) (b : Nat) (w : World) (hs : Sl w w.heap.size se 1 A n ps) (hb : w.cell? ⟨b, 0, none⟩ = some (.string s)) (hn : n ≤ 100000) :
    Calls Tryz.prog 35 #[.slice A n c, .func (.func 36) #[] #[.pointer (some ⟨b, 0, none⟩)]] w fun e w' => ∃ z : Int, e = .returned (.int .i64 z) ∧ (z < 0 ↔ s.data.toList ∉ ps) ∧ w = w' := by
  have HS := hide hs
  have hnl : ps.length = n := hs.len
  clear hs
  go_enter Tryz.func35, Tryz.ntmps35
  go_wp2_with (fail)
  go_loop [9] (fun ti => ∃ j : Nat, j ≤ n ∧ ti = .int .i64 (j : Int) ∧ s.data.toList ∉ ps.take j) (fun ti => n - (intOf ti).toNat)
  case atStart => exact ⟨0, Nat.zero_le _, rfl, by simp⟩
  case round =>
    obtain ⟨j, hj, rfl, hno⟩ := hrel
    by_cases hjn : j < n
    · obtain ⟨bb, oo, x, hA, hbb, hx, hc⟩ := HS.out.at_ hjn
      have d0 : w.cell? ⟨bb, oo + j, none⟩ = some (encStr x) := by simpa [se] using hc 0 _ rfl
      have hjn' : (j : Int) < (n : Int) := by omega
      have HX := hide hx
      clear hc hx
      subst hA
      subst hnl
      unfold encStr at d0
      obtain ⟨q, hq⟩ : ∃ q, decide (x = s.data.toList) = q := ⟨_, rfl⟩
      have CF := hide (show Calls Tryz.prog 36 #[.string ⟨x.toArray⟩, .pointer (some ⟨b, 0, none⟩)] w fun e w' => e = .returned (.bool q) ∧ w = w' from hq ▸ Same_fn ⟨x.toArray⟩ s b w hb)
      cases q
      · have hne : x ≠ s.data.toList := of_decide_eq_false hq
        have HNO := hide (show s.data.toList ∉ ps.take (j + 1) by
          rw [take_succ_get HX.out, List.mem_append, List.mem_singleton]
          rintro (h | h)
          · exact hno h
          · exact hne h.symm)
        clear hno hq hne
        go_wp2_with (go_at_call 36; refine CF.out.mono ?_; rintro e w1 ⟨rfl, rfl⟩)
        go_round
        case rel => exact ⟨j + 1, by omega, by go_num, HNO.out⟩
        case measure => simp [intOf]; omega
      · have HE := hide (show s.data.toList ∈ ps from (of_decide_eq_true hq) ▸ List.mem_of_getElem? HX.out)
        clear hno hq
        go_wp2_with (go_at_call 36; refine CF.out.mono ?_; rintro e w1 ⟨rfl, rfl⟩)
        go_ret
        exact ⟨_, rfl, ⟨fun h => by omega, fun h => absurd HE.out h⟩, rfl⟩
    · have hje : j = n := by omega
      have HNO := hide (show s.data.toList ∉ ps by rw [hje, ← hnl, List.take_length] at hno; exact hno)
      clear hno
      go_wp2_with (fail)
      go_ret
      exact ⟨_, rfl, ⟨fun _ => HNO.out, fun _ => by decide⟩, rfl⟩
end Go.Proofs.YtapfcnfmonknjaaGreatDoor.Bk
