/- The reference's book: printsOf. -/
import Derived.Test.YtapfcnfmonknjaaGreatDoorRbM
import Derived.Deep.Onto
import Derived.ProofKit
namespace Go.Proofs.YtapfcnfmonknjaaGreatDoor.Bk
open Go.RowKit Go.Maps Go.Sort
set_option linter.unusedVariables false
set_option linter.unusedSimpArgs false
set_option maxRecDepth 100000 in
set_option maxHeartbeats 8000000 in
theorem RPrintsOf_any {B : Nat} {w : World} {q : Nat} {lv : Value} {given : Int} {sv : Value} {lr : List Pr} (h : RM B w q lv given sv lr) (hu : Up lr) (hl : lr.length ≤ 1000) (id : Int) :
    Calls Tryz.prog 33 #[.pointer (some ⟨q, 0, none⟩), .int .i64 id] w fun e w' => ∃ v, e = .returned v ∧ w'.ownsRow w.heap.size 9 1 v (prs id lr).length ((prs id lr).map encStr) ∧ Below w.heap.size w w' := by
  obtain ⟨i0, hi0, iz0, iz1, iz2⟩ := info_parts info_strg
  obtain ⟨A, c, rfl, hsl, _⟩ := sl_of_own (f := Rr) (sz := 6) (fun _ => rfl) rfl h.row
  have x0 : w.cell? ⟨q, 0, none⟩ = some (.slice A lr.length c) := (block_cell h.box 0).trans rfl
  have HSL := hide hsl
  rw [← hu.pid id]
  clear h hsl hu
  go_enter Tryz.func33, Tryz.ntmps33
  go_wp2_with (fail)
  go_loopw [5, 13] (fun v ti wr => ∃ j : Nat, j ≤ lr.length ∧ ti = .int .i64 (j : Int) ∧ wr.ownsRow w.heap.size 9 1 v (pid id (lr.take j)).length ((pid id (lr.take j)).map encStr) ∧ Below w.heap.size w wr) (fun _ ti _ => lr.length - (intOf ti).toNat)
  case atStart => exact ⟨0, Nat.zero_le _, rfl, World.ownsRow_nil _ _ _ _, Below.refl _ _⟩
  case round =>
    obtain ⟨j, hj, rfl, hr, hB⟩ := hrel
    obtain ⟨vA, vc, rfl⟩ := own_sl hr
    have hpl := pid_len id (lr.take j)
    rw [List.length_take] at hpl
    by_cases hjn : j < lr.length
    · obtain ⟨bb, oo, r, hA, hbb, hx, hc⟩ := (HSL.out.below hB).at_ hjn
      have c0 : wr.cell? ⟨bb, oo + j * 6, none⟩ = some (.string ⟨r.p.toArray⟩) := by simpa using hc 0 _ rfl
      have c1 : wr.cell? ⟨bb, oo + j * 6 + 1, none⟩ = some (.int .i64 r.ev) := hc 1 _ rfl
      have c2 : wr.cell? ⟨bb, oo + j * 6 + 2, none⟩ = some (.int .i64 r.wt) := hc 2 _ rfl
      have c3 : wr.cell? ⟨bb, oo + j * 6 + 3, none⟩ = some (.int .i64 r.fi) := hc 3 _ rfl
      have c4 : wr.cell? ⟨bb, oo + j * 6 + 4, none⟩ = some (.int .i64 r.la) := hc 4 _ rfl
      have c5 : wr.cell? ⟨bb, oo + j * 6 + 5, none⟩ = some (.int .i64 r.g) := hc 5 _ rfl
      have hjn' : (j : Int) < (lr.length : Int) := by omega
      have HTK := hide (take_succ_get hx)
      have hYES := fun h => pid_yes (id := id) (lr.take j) (r := r) h
      have hNO := fun h => pid_no (id := id) (lr.take j) (r := r) h
      have hz := hB.size
      have HBA := hide (hB.alloc hz (.cells #[.string ⟨r.p.toArray⟩, .int .i64 r.ev, .int .i64 r.wt, .int .i64 r.fi, .int .i64 r.la, .int .i64 r.g] 64))
      have HRA := hide (hr.alloc (.cells #[.string ⟨r.p.toArray⟩, .int .i64 r.ev, .int .i64 r.wt, .int .i64 r.fi, .int .i64 r.la, .int .i64 r.g] 64))
      have hlo := HRA.out.lt
      obtain ⟨n, hn⟩ : ∃ n, (pid id (lr.take j)).length = n := ⟨_, rfl⟩
      rw [hn] at HRA hpl hlo ⊢
      have HN := hide hn
      clear hc hx hr hB hn
      subst hA
      by_cases hI : r.g = id
      · have HY := hide (hYES hI)
        obtain ⟨rp, rg, rv, rw_, rf, rl⟩ := r
        simp only at hI
        have hIb : (rg == id) = true := by rw [hI]; simp
        clear hYES hNO hI
        go_wp2_with (first | (at_builtin; refine wpList_append_own _ rfl (.tmp 21) (.tmp 24) 30 rfl w.heap.size 9 i0 (.string ByteArray.empty) 1 16 Tryz.underlying30 hi0 iz0 iz1 iz2 rfl (by decide) (.slice vA n vc) n ((pid id (lr.take j)).map encStr) rfl (HRA.out.alloc _) ⟨wr.heap.size + 1, 0, none⟩ 1 1 [.string ⟨rp.toArray⟩] (by go_simp) rfl (by first | exact cell_one_new _ _ _ | (have h9 := cell_one_new (wr.alloc (.cells #[.string ⟨rp.toArray⟩, .int .i64 rv, .int .i64 rw_, .int .i64 rf, .int .i64 rl, .int .i64 rg] 64)) (.string ⟨rp.toArray⟩) 9; simpa using h9)) (by intro u hu; simp at hu; subst hu; rfl) (by unfold maxLen; omega) (by omega) (by simp; omega) ?_; intro v8 w8 hown8 hg8 _; obtain ⟨A8, c8, rfl⟩ := own_sl hown8; have HO8 := hide hown8; have HB8 := hide ((HBA.out.alloc (by simp; omega) _).grown hg8 (by simp; omega) (fun j hj => (hlo j hj).1)); clear hown8 hg8))
        go_roundw
        case rel =>
          refine ⟨j + 1, by omega, by go_num, ?_, HB8.out⟩
          rw [HTK.out, HY.out, List.length_append, List.map_append, List.map_singleton, HN.out]
          exact HO8.out
        case measure => simp [intOf]; omega
      · have HNo := hide (hNO hI)
        obtain ⟨rp, rg, rv, rw_, rf, rl⟩ := r
        simp only at hI
        have hIb : (rg == id) = false := beq_eq_false_iff_ne.2 hI
        clear hYES hNO hI
        go_wp2_with (fail)
        go_roundw
        case rel =>
          refine ⟨j + 1, by omega, by go_num, ?_, HBA.out⟩
          rw [HTK.out, HNo.out, HN.out]
          exact HRA.out
        case measure => simp [intOf]; omega
    · have hje : j = lr.length := by omega
      subst hje
      rw [List.take_length] at hr ⊢
      have HR := hide hr
      have HB := hide hB
      clear hr hB
      go_wp2_with (fail)
      refine bodyPost_ret (by simp [results, Tryz.results33, go_sem]; try rfl) rfl ?_
      exact ⟨_, rfl, HR.out, HB.out⟩
end Go.Proofs.YtapfcnfmonknjaaGreatDoor.Bk
