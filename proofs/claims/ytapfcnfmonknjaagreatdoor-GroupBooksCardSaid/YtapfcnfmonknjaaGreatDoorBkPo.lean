/- The prints of a group: printsOf, Of. -/
import Derived.Test.YtapfcnfmonknjaaGreatDoorBkG2
import Derived.Deep.Onto
import Derived.ProofKit
import Derived.BigRegion
namespace Go.Proofs.YtapfcnfmonknjaaGreatDoor.Bk
open Go.RowKit Go.Maps Go.Sort
set_option linter.unusedVariables false
set_option linter.unusedSimpArgs false
/-- The prints of a group, rising. -/
def prs (id : Int) (l : List Pr) : List (List UInt8) := srtP ((ofG id l).map Pr.p)
theorem prs_perm {l m : List Pr} (h : l.Perm m) (id : Int) : prs id l = prs id m := srtP_eq ((ofG_perm h id).map Pr.p)
theorem mem_prs {id : Int} {l : List Pr} {s : List UInt8} : s ∈ prs id l ↔ ∃ r ∈ l, r.g = id ∧ r.p = s := by
  rw [prs, (srtP_perm _).mem_iff, List.mem_map]
  constructor
  · rintro ⟨r, hr, e⟩
    obtain ⟨h1, h2⟩ := List.mem_filter.1 hr
    exact ⟨r, h1, by simpa using h2, e⟩
  · rintro ⟨r, hr, h1, e⟩
    exact ⟨r, List.mem_filter.2 ⟨hr, by simpa using h1⟩, e⟩
theorem prs_len (id : Int) (l : List Pr) : (prs id l).length ≤ l.length := by
  rw [prs, srtP_len, List.length_map]; exact ofG_len id l
def pid (id : Int) (m : List Pr) : List (List UInt8) := (ofG id m).map Pr.p
theorem pid_len (id : Int) (m : List Pr) : (pid id m).length ≤ m.length := by rw [pid, List.length_map]; exact ofG_len id m
theorem pid_yes {id : Int} (m : List Pr) {r : Pr} (h : r.g = id) : pid id (m ++ [r]) = pid id m ++ [r.p] := by rw [pid, ofG_snoc_same m h, List.map_append]; rfl
theorem pid_no {id : Int} (m : List Pr) {r : Pr} (h : r.g ≠ id) : pid id (m ++ [r]) = pid id m := by rw [pid, ofG_snoc_other m h]; rfl
set_option maxRecDepth 100000 in
set_option maxHeartbeats 8000000 in
theorem PrintsOf_any {B0 p mb mn : Nat} {last : Int} {sv : Value} {l : List Pr} {bk : List UInt8 → Nat} {w : World} (h : BM B0 w p mb mn last sv l bk) (hnd : (l.map Pr.p).Nodup) (hl : l.length ≤ 1000) (id : Int) :
    Calls Tryz.prog 31 #[.pointer (some ⟨p, 0, none⟩), .int .i64 id] w fun e w' => ∃ v, e = .returned v ∧ w'.ownsRow w.heap.size 9 1 v (prs id l).length ((prs id l).map encStr) ∧ Below w.heap.size w w' := by
  obtain ⟨i0, hi0, iz0, iz1, iz2⟩ := info_parts info_strg
  obtain ⟨D0, hD1, hD2⟩ := h.map
  have hmb : mb < w.heap.size := hD1.lt
  have x0 : w.cell? ⟨p, 0, none⟩ = some (.map (some mb)) := (block_cell h.box 0).trans rfl
  have HH := hide h
  have HD2 := hide hD2
  clear h hD2
  go_enter Tryz.func31, Tryz.ntmps31
  go_wp2_with (first
    | (at_range; refine wpList_range_own _ rfl _ 53 rfl 9 58 law_s Tryz.underlying53 _ mb mn _ rfl hD1 ?_; intro w0 hrg0 hg0 hs0)
    | go_in)
  go_frame
  go_loopw [5] (fun v wr => ∃ (left : Lit → Bool) (cnt : Nat) (m : List Pr), wr.ranges Tryz.prog 9 ptE mb w.heap.size mn D0 left cnt ∧ Got Lit.string (l.map Pr.p) (m.map Pr.p) left ∧
      wr.ownsRow (w.heap.size + 1) 9 1 v (pid id m).length ((pid id m).map encStr) ∧ (∀ r ∈ m, r ∈ l) ∧ Below w.heap.size w wr ∧ w.heap.size + 1 ≤ wr.heap.size) (fun _ wr => wr.rangeLeft mb w.heap.size)
  case atStart =>
    exact ⟨_, _, [], hrg0, Got.start HD2.out, World.ownsRow_nil _ _ _ _, by simp, (Below.refl _ _).grown hg0 (Nat.le_refl _) (fun j hj => by cases hj), by omega⟩
  case round =>
    obtain ⟨left, cnt, m, hrg, hGt, hr, hsub, hB, hz⟩ := hrel
    obtain ⟨vA, vc, rfl⟩ := own_sl hr
    clear hrg0 hg0 hs0 hD1 x0
    go_wp2_with (first
      | (at_next; refine wpList_next_ranges _ rfl _ rfl 9 law_s ptE Value.string ptV (fun key kl hk => by obtain ⟨s, e, _⟩ := key_inv hk; exact ⟨s, e⟩) (fun v y hv => ptE_inv2 hv) mb w.heap.size mn _ _ _ rfl hrg ?_ ?_)
      | go_in)
    · intro hc0 hl0
      have hml := all_come hGt hl0 hnd hsub
      have hlen := hml.length_eq
      have hpl := pid_len id m
      have HR := hide hr
      have HE := hide (show srtP (pid id m) = prs id l from prs_perm hml id)
      have HB := hide hB
      have hlo := hr.lt
      have hps : (pid id m).length ≤ 100000 := by omega
      clear hml hr hB hrg hGt hsub hlen hpl
      go_wp2_with (first | (go_at_call 39; refine (SortP_any HR.out hps).mono ?_; rintro e w7 ⟨rfl, hr7, hg7⟩))
      refine bodyPost_ret (by simp [results, Tryz.results31, go_sem]; try rfl) rfl ?_
      refine ⟨_, rfl, ?_, HB.out.grown hg7 HB.out.size (fun j hj => by have := (hlo j hj).1; omega)⟩
      rw [← HE.out, srtP_len]
      exact World.ownsRow.mono hr7 (Nat.le_succ _)
    · intro x c kl y1 y2 w1 cnt1 hkx hlx hcy hat hrg1 hlt hg1 hs1 hen
      obtain ⟨s, e1, rfl⟩ := key_inv hkx
      cases e1
      obtain ⟨hin, hnot⟩ := (hGt.lf _).1 hlx
      obtain ⟨r, hrl, hrp⟩ := List.mem_map.1 hin
      have ec : c = some (bk r.p) := by
        have h1 := hat (.lit (.int .i64 0))
        rw [ptE_mk] at hcy
        rw [← hrp, HD2.out.in_ r.p (List.mem_map.2 ⟨r, hrl, rfl⟩)] at h1
        have h2 := congrArg Prod.fst (Option.some.inj hcy)
        simp only at h2
        rw [← h1] at h2
        simp only [DataW.lit.injEq, Lit.int.injEq, true_and] at h2
        exact ptI_inj h2
      subst ec
      simp only [ptV] at hen
      have HGS := hide (show Got Lit.string (l.map Pr.p) ((m ++ [r]).map Pr.p) _ by rw [List.map_append, List.map_singleton, hrp]; exact hGt.step enc_str trivial hlx)
      have hroom := HGS.out.room hnd
      rw [List.length_map, List.length_map, List.length_append, List.length_singleton] at hroom
      have hpl := pid_len id m
      have hr1 := hr.kept hg1 (.inr (fun e => by have := (hr.lt _ e).1; omega))
      have hB1 := hB.grown hg1 hB.size (fun j hj => by cases hj; exact Nat.le_refl _)
      have hz1 : w.heap.size + 1 ≤ w1.heap.size := by omega
      obtain ⟨k, hk⟩ : ∃ k, bk r.p = k := ⟨_, rfl⟩
      rw [hk] at hen
      have HCr := (HH.out.below hB1).cell r hrl
      rw [hk] at HCr
      have HSUB := hide (show ∀ y ∈ m ++ [r], y ∈ l from fun y hy => by
        rcases List.mem_append.1 hy with hy | hy
        · exact hsub y hy
        · rw [List.mem_singleton.1 hy]; exact hrl)
      have HRG0 := hide hrg
      have HRG1 := hide hrg1
      have HB1 := hide hB1
      have HR1 := hide hr1
      have HRP := hide hrp
      have hlo := hr1.lt
      have hYES := fun h => pid_yes (id := id) m (r := r) h
      have hNO := fun h => pid_no (id := id) m (r := r) h
      clear hrp hGt hsub hrg hrg1 hB hB1 hr hr1 hkx hcy hat hlx hin hnot hg1 hk hs1 hz
      obtain ⟨rp, rg, rv, rw_, rf, rl⟩ := r
      have HCr := hide (show w1.heap[k]? = some (.cells #[.int .i64 rg, .int .i64 rv, .int .i64 rw_, .int .i64 rf, .int .i64 rl] 60 (0, 0)) from HCr)
      have c0 : w1.cell? ⟨k, 0, none⟩ = some (.int .i64 rg) := (block_cell HCr.out 0).trans rfl
      by_cases hI : rg = id
      · have HY := hide (hYES hI)
        clear hYES hNO
        go_wp2_with (first | (at_builtin; refine wpList_append_own _ rfl (.tmp 24) (.tmp 26) 30 rfl (w.heap.size + 1) 9 i0 (.string ByteArray.empty) 1 16 Tryz.underlying30 hi0 iz0 iz1 iz2 rfl (by decide) (.slice vA (pid id m).length vc) (pid id m).length ((pid id m).map encStr) rfl (HR1.out.alloc _) ⟨w1.heap.size, 0, none⟩ 1 1 [.string x] rfl rfl (cell_one_new _ _ _) (by intro u hu; simp at hu; subst hu; rfl) (by unfold maxLen; omega) (by omega) (by simp; omega) ?_; intro v8 w8 hown8 hg8 _; obtain ⟨A8, c8, rfl⟩ := own_sl hown8; have HO8 := hide hown8; have HB8 := hide ((HB1.out.alloc (by omega) _).grown hg8 (by simp; omega) (fun j hj => by have := (hlo j hj).1; omega)); have HG8 := hide ((HRG1.out.alloc _).kept hg8 (fun e => by have := (hlo mb e.symm).1; omega) (fun e => by have := (hlo _ e.symm).1; omega)); have hz8 := hg8.size; clear hown8 hg8))
        go_roundw
        case rel =>
          refine ⟨_, cnt1, m ++ [⟨rp, rg, rv, rw_, rf, rl⟩], HG8.out, HGS.out, ?_, HSUB.out, HB8.out, by simp at hz8; omega⟩
          rw [HY.out, List.length_append, List.map_append, List.map_singleton]
          have e9 : encStr (⟨rp, rg, rv, rw_, rf, rl⟩ : Pr).p = .string x := by rw [HRP.out]
          rw [e9]
          exact HO8.out
        case measure => rw [HG8.out.left_eq, HRG0.out.left_eq]; exact hlt
      · have HNo := hide (hNO hI)
        clear hYES hNO
        go_wp2_with (fail)
        go_roundw
        case rel =>
          refine ⟨_, cnt1, m ++ [⟨rp, rg, rv, rw_, rf, rl⟩], HRG1.out, HGS.out, ?_, HSUB.out, HB1.out, hz1⟩
          rw [HNo.out]
          exact HR1.out
        case measure => rw [HRG1.out.left_eq, HRG0.out.left_eq]; exact hlt
set_option maxHeartbeats 4000000 in
theorem Of_any {B0 p mb mn : Nat} {last : Int} {sv : Value} {l : List Pr} {bk : List UInt8 → Nat} {w : World} (h : BM B0 w p mb mn last sv l bk) (s : ByteArray) (hs : s.size ≤ maxLen) (r : Pr) (hr : r ∈ l) (hrp : r.p = s.data.toList) :
    Calls Tryz.prog 13 #[.pointer (some ⟨p, 0, none⟩), .string s] w fun e w' => e = .returned (.tuple #[.int .i64 r.g, .int .i64 0]) ∧ w' = w := by
  obtain ⟨D0, hD1, hD2⟩ := h.map
  have x0 : w.cell? ⟨p, 0, none⟩ = some (.map (some mb)) := (block_cell h.box 0).trans rfl
  have hat := hD2.in_ r.p (List.mem_map.2 ⟨r, hr, rfl⟩)
  obtain ⟨k, hk⟩ : ∃ k, bk r.p = k := ⟨_, rfl⟩
  have hc := h.cell r hr
  rw [hk] at hc hat
  rw [hrp] at hat
  have HAT := hide hat
  have HKY := hide (key_s s hs)
  have HD1 := hide hD1
  obtain ⟨rp, rg, rv, rw_, rf, rl⟩ := r
  have c0 : w.cell? ⟨k, 0, none⟩ = some (.int .i64 rg) := (block_cell hc 0).trans rfl
  clear h hD1 hD2 hat hk hc hrp hr
  go_enter Tryz.func13, Tryz.ntmps13
  go_wp2_with (at_lookup; refine wpList_lookup_some _ rfl _ _ 53 rfl 9 58 law_s Tryz.underlying53 (zero_c _) mb mn D0 rfl HD1.out (.string s) _ rfl HKY.out k HAT.out ?_)
  refine bodyPost_ret (by simp [results, Tryz.results13, go_sem]; try rfl) rfl ?_
  exact ⟨rfl, rfl⟩
end Go.Proofs.YtapfcnfmonknjaaGreatDoor.Bk
