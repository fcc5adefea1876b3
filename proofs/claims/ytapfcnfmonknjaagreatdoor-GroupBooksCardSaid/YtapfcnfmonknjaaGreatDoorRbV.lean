/- The reference's book: move. -/
import Derived.Test.YtapfcnfmonknjaaGreatDoorRbP
namespace Go.Proofs.YtapfcnfmonknjaaGreatDoor.Bk
open Go.RowKit Go.Maps Go.Sort
set_option linter.unusedVariables false
set_option linter.unusedSimpArgs false
theorem RContains (A : Option Addr) (n c : Nat) (ps : List (List UInt8)) (x : List UInt8) (w : World) (hs : Sl w w.heap.size se 1 A n ps) (hn : n ≤ 100000) :
    Calls Tryz.prog 38 #[.slice A n c, .string ⟨x.toArray⟩] w fun e w' => e = .returned (.bool (decide (x ∈ ps))) ∧ w' = w := by
  have hl := hs.len
  rcases Nat.eq_zero_or_pos n with h | h
  · subst h
    rw [List.length_eq_zero_iff.1 hl]
    refine (Tryz.slices_Contains_string_empty A c ⟨x.toArray⟩ w).mono ?_
    rintro e w' ⟨rfl, rfl⟩
    exact ⟨by simp, rfl⟩
  · obtain ⟨b, o, rfl, hlt, hc⟩ := hs.cells h
    have hcon := Tryz.slices_Contains_string b o n c (ps.map fun s => (⟨s.toArray⟩ : ByteArray)) ⟨x.toArray⟩ w (by simp [hl]) (by omega) (fun j hj => by
      rw [List.length_map] at hj
      have h1 := hc j ps[j] (List.getElem?_eq_getElem hj) 0 _ rfl
      rw [Nat.mul_one, Nat.add_zero] at h1
      rw [h1]
      simp [encStr, List.getD, hj])
    refine hcon.mono ?_
    rintro e w' ⟨rfl, rfl⟩
    refine ⟨?_, rfl⟩
    rw [List.take_of_length_le (by rw [List.length_map]; omega)]
    have e : Lib.containsS (ps.map fun s => (⟨s.toArray⟩ : ByteArray)) ⟨x.toArray⟩ = decide (x ∈ ps) := by
      rw [Bool.eq_iff_iff, Lib.containsS_iff, decide_eq_true_iff, List.mem_map]
      constructor
      · rintro ⟨s, hs, e⟩
        have e2 : s = x := by injection e with e; exact Array.toList_inj.2 e |> fun h => by simpa using h
        exact e2 ▸ hs
      · exact fun hs => ⟨x, hs, rfl⟩
    rw [e]
theorem set_selfP {l : List Pr} {j : Nat} {r : Pr} (h : l[j]? = some r) : l.set j r = l := by
  apply List.ext_getElem?
  intro i
  rw [List.getElem?_set]
  by_cases e : j = i
  · subst e
    rw [if_pos rfl, if_pos (List.getElem?_eq_some_iff.1 h).1, h]
  · rw [if_neg e]
def mvF (ps : List (List UInt8)) (to : Int) (r : Pr) : Pr := if r.p ∈ ps then { r with g := to } else r
theorem mvL_map (ps : List (List UInt8)) (to : Int) (l : List Pr) : mvL ps to l = l.map (mvF ps to) := rfl
/-- j records moved. -/
def mvJ (ps : List (List UInt8)) (to : Int) (l : List Pr) (j : Nat) : List Pr := (l.take j).map (mvF ps to) ++ l.drop j
theorem mvJ_len (ps : List (List UInt8)) (to : Int) (l : List Pr) (j : Nat) : (mvJ ps to l j).length = l.length := by simp [mvJ]; omega
theorem mvJ_at {ps : List (List UInt8)} {to : Int} {l : List Pr} {j : Nat} {r : Pr} (h : l[j]? = some r) : (mvJ ps to l j)[j]? = some r := by
  have hj := (List.getElem?_eq_some_iff.1 h).1
  rw [mvJ, List.getElem?_append_right (by simp; omega)]
  simp only [List.length_map, List.length_take, List.getElem?_drop]
  rw [show j + (j - min j l.length) = j by omega]
  exact h
theorem mvJ_succ {ps : List (List UInt8)} {to : Int} {l : List Pr} {j : Nat} {r : Pr} (h : l[j]? = some r) : mvJ ps to l (j + 1) = (mvJ ps to l j).set j (mvF ps to r) := by
  have hj := (List.getElem?_eq_some_iff.1 h).1
  have e : l.drop j = r :: l.drop (j + 1) := by
    rw [List.drop_eq_getElem_cons hj]
    rw [(List.getElem?_eq_some_iff.1 h).2]
  rw [mvJ, mvJ, take_succ_get h, List.map_append, List.map_singleton, e, List.set_append_right _ _ (by simp; omega)]
  simp only [List.length_map, List.length_take]
  rw [show j - min j l.length = 0 by omega]
  simp
theorem mvJ_all (ps : List (List UInt8)) (to : Int) (l : List Pr) : mvJ ps to l l.length = mvL ps to l := by rw [mvJ, List.take_length, List.drop_length, List.append_nil, mvL_map]
set_option maxRecDepth 100000 in
set_option maxHeartbeats 8000000 in
theorem RMove_any {B : Nat} {w : World} {q : Nat} {lv : Value} {given : Int} {sv : Value} {lr : List Pr} (h : RM B w q lv given sv lr) (to : Int) (A : Option Addr) (n c : Nat) (ps : List (List UInt8)) (hs : Sl w w.heap.size se 1 A n ps)
    (hsep : 0 < n → ∀ b o, A = some ⟨b, o, none⟩ → lv.ownBlock ≠ some b) (hn : n ≤ 100000) (hl : lr.length ≤ 1000) (hBz : B ≤ w.heap.size) :
    Calls Tryz.prog 34 #[.pointer (some ⟨q, 0, none⟩), .slice A n c, .int .i64 to] w fun e w' => e = .returned (.tuple #[]) ∧ RM B w' q lv given sv (mvL ps to lr) ∧ Keep B (fun k => lv.ownBlock = some k) w w' := by
  obtain ⟨LA, lc, rfl⟩ := own_sl h.row
  have HH := hide h
  have HS := hide hs
  have HSEP := hide hsep
  have x0 : w.cell? ⟨q, 0, none⟩ = some (.slice LA lr.length lc) := (block_cell h.box 0).trans rfl
  clear h hs hsep
  go_enter Tryz.func34, Tryz.ntmps34
  go_wp2_with (fail)
  go_loopw [12] (fun ti wr => ∃ j : Nat, j ≤ lr.length ∧ ti = .int .i64 (j : Int) ∧ RM B wr q (.slice LA lr.length lc) given sv (mvJ ps to lr j) ∧ Keep B (fun k => (Value.slice LA lr.length lc).ownBlock = some k) w wr) (fun ti _ => lr.length - (intOf ti).toNat)
  case atStart => exact ⟨0, Nat.zero_le _, rfl, by rw [show mvJ ps to lr 0 = lr by simp [mvJ]]; exact HH.out, Keep.refl _ _ _⟩
  case round =>
    obtain ⟨j, hj, rfl, hM, hK⟩ := hrel
    by_cases hjn : j < lr.length
    · obtain ⟨r, hr⟩ : ∃ r, lr[j]? = some r := ⟨_, List.getElem?_eq_getElem hjn⟩
      have hrow := hM.row
      rw [mvJ_len] at hrow
      obtain ⟨g, cap, cur, e, hgB, hgb, _⟩ := own_blk hrow (by omega)
      cases e
      have hat := mvJ_at (ps := ps) (to := to) hr
      have c0 : wr.cell? ⟨g, j * 6, none⟩ = some (.string ⟨r.p.toArray⟩) := own_cell hrow _ _ (by
        have h9 := fm_get (f := Rr) (sz := 6) (fun _ => rfl) (mvJ ps to lr j) j 0 (by decide)
        rw [hat, Nat.add_zero] at h9
        exact h9)
      have HF5 := hide (own_free hrow (j * 6 + 5))
      have c5 : wr.cell? ⟨g, j * 6 + 5, none⟩ = some (.int .i64 r.g) := own_cell hrow _ _ (by
        have h9 := fm_get (f := Rr) (sz := 6) (fun _ => rfl) (mvJ ps to lr j) j 5 (by decide)
        rw [hat] at h9
        exact h9)
      have f5 := HF5.out
      have y0 : wr.cell? ⟨q, 0, none⟩ = some (.slice (some ⟨g, 0, none⟩) lr.length lc) := (block_cell hM.box 0).trans rfl
      have hS := sl_stayM (U := fun k => (Value.slice (some ⟨g, 0, none⟩) lr.length lc).ownBlock ≠ some k) HS.out (fun k o e u => hK.keep k o e u) (fun h0 b o e => HSEP.out h0 b o e)
      have CC := hide (RContains A n c ps r.p wr ⟨hS.len, fun h0 => by obtain ⟨b, o, e, hlt, hc⟩ := hS.cells h0; exact ⟨b, o, e, Nat.lt_of_lt_of_le hlt hK.be.size, hc⟩⟩ hn)
      have hjn' : (j : Int) < (lr.length : Int) := by omega
      have HM := hide hM
      have HK := hide hK
      have HR := hide hr
      have HROW := hide hrow
      have HAT := hide hat
      have hgq : g ≠ q := hM.ne rfl
      have HSUC := hide (mvJ_succ (ps := ps) (to := to) hr)
      obtain ⟨b, hb⟩ : ∃ b, decide (r.p ∈ ps) = b := ⟨_, rfl⟩
      rw [hb] at CC
      clear hM hK hr hrow hat hS hgb HS
      cases b
      · have hno : r.p ∉ ps := of_decide_eq_false hb
        clear hb
        go_wp2_with (go_at_call 38; refine CC.out.mono ?_; rintro e w1 ⟨rfl, rfl⟩)
        go_roundw
        case rel =>
          refine ⟨j + 1, by omega, by go_num, ?_, HK.out⟩
          have e : mvJ ps to lr (j + 1) = mvJ ps to lr j := by
            rw [HSUC.out, mvF, if_neg hno]
            exact set_selfP HAT.out
          rw [e]; exact HM.out
        case measure => simp [intOf]; omega
      · have hyes : r.p ∈ ps := of_decide_eq_true hb
        clear hb
        go_wp2_with (go_at_call 38; refine CC.out.mono ?_; rintro e w1 ⟨rfl, rfl⟩)
        go_roundw
        case rel =>
          refine ⟨j + 1, by omega, by go_num, ⟨block_set_other HM.out.box _ _ hgq.symm, ?_, HM.out.lo⟩, HK.out.trans (Keep.set _ _ _ hgB rfl)⟩
          rw [mvJ_len, HSUC.out]
          have h9 := own_set HROW.out (j * 6 + 5) (.int .i64 to)
          rw [← fm_set (f := Rr) (sz := 6) (fun _ => rfl) (mvJ ps to lr j) j 5 r (mvF ps to r) (.int .i64 to) (by decide) HAT.out (by rw [mvF, if_pos hyes]; rfl)] at h9
          exact h9
        case measure => simp [intOf]; omega
    · have hje : j = lr.length := by omega
      rw [hje, mvJ_all] at hM
      have HM := hide hM
      have HK := hide hK
      have hjn' : ¬ (j : Int) < (lr.length : Int) := by omega
      clear hM hK
      go_wp2_with (fail)
      refine bodyPost_end (results_none rfl _ _ _) rfl ?_
      exact ⟨rfl, HM.out, HK.out⟩
end Go.Proofs.YtapfcnfmonknjaaGreatDoor.Bk
