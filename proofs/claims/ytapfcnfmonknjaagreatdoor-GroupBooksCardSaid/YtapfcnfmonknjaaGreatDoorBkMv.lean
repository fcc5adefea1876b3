/- move, find: prints go to a group; whether a print is among others. -/
import Derived.Test.YtapfcnfmonknjaaGreatDoorBkPo
namespace Go.Proofs.YtapfcnfmonknjaaGreatDoor.Bk
open Go.RowKit Go.Maps Go.Sort
set_option linter.unusedVariables false
set_option linter.unusedSimpArgs false
def se (s : List UInt8) : List Value := [encStr s]
/-- The prints ps go to group id. -/
def mvL (ps : List (List UInt8)) (id : Int) (l : List Pr) : List Pr := l.map fun r => if r.p ∈ ps then { r with g := id } else r
theorem mvL_keys (ps : List (List UInt8)) (id : Int) (l : List Pr) : (mvL ps id l).map Pr.p = l.map Pr.p := by
  rw [mvL, List.map_map]
  refine List.map_congr_left fun r _ => ?_
  simp only [Function.comp_apply]
  split <;> rfl
theorem mvL_nil (id : Int) (l : List Pr) : mvL [] id l = l := by simp [mvL]
theorem mvL_one (ps : List (List UInt8)) (s : List UInt8) (id : Int) (l : List Pr) : mvL [s] id (mvL ps id l) = mvL (ps ++ [s]) id l := by
  rw [mvL, mvL, mvL, List.map_map]
  refine List.map_congr_left fun r _ => ?_
  simp only [Function.comp_apply, List.mem_append, List.mem_singleton]
  have e : (if r.p ∈ ps then { r with g := id } else r).p = r.p := by split <;> rfl
  rw [e]
  by_cases h1 : r.p ∈ ps
  · rw [if_pos h1, if_pos (Or.inl h1)]
    split <;> rfl
  · rw [if_neg h1]
    by_cases h2 : r.p = s
    · rw [if_pos h2, if_pos (Or.inr h2)]
    · rw [if_neg h2, if_neg (by rintro (h | h); exact h1 h; exact h2 h)]
theorem mem_mvL {ps : List (List UInt8)} {id : Int} {l : List Pr} {y : Pr} (h : y ∈ mvL ps id l) : ∃ x ∈ l, y.p = x.p ∧ ((x.p ∈ ps ∧ y = { x with g := id }) ∨ (x.p ∉ ps ∧ y = x)) := by
  obtain ⟨x, hx, rfl⟩ := List.mem_map.1 h
  refine ⟨x, hx, by split <;> rfl, ?_⟩
  by_cases h1 : x.p ∈ ps
  · exact .inl ⟨h1, by rw [if_pos h1]⟩
  · exact .inr ⟨h1, by rw [if_neg h1]⟩
theorem BM.mv {B p mb mn : Nat} {last : Int} {sv : Value} {l : List Pr} {bk : List UInt8 → Nat} {w w' : World} (h : BM B w p mb mn last sv l bk) {r : Pr} (hr : r ∈ l) (id : Int)
    (hblk : w'.heap[bk r.p]? = some (.cells (Pr.cs { r with g := id }).toArray 60 (0, 0))) (ho : ∀ k o, w.heap[k]? = some o → k ≠ bk r.p → w'.heap[k]? = some o) : BM B w' p mb mn last sv (mvL [r.p] id l) bk := by
  obtain ⟨D, h1, h2⟩ := h.map
  have hin : ∀ y ∈ mvL [r.p] id l, ∃ x ∈ l, y.p = x.p ∧ ((x = r ∧ y = { r with g := id }) ∨ (x.p ≠ r.p ∧ y = x)) := fun y hy => by
    obtain ⟨x, hx, e, c | c⟩ := mem_mvL hy
    · have e2 : x.p = r.p := by simpa using c.1
      obtain rfl := h.inj x hx r hr (by rw [e2])
      exact ⟨x, hx, e, .inl ⟨rfl, c.2⟩⟩
    · exact ⟨x, hx, e, .inr ⟨by simpa using c.1, c.2⟩⟩
  refine ⟨ho p _ h.box (h.pc hr).1.symm, ⟨D, owns_stay h1 (fun o e => ho mb o e (h.pc hr).2.symm), by rw [mvL_keys]; exact h2⟩, fun y hy => ?_, fun y hy z hz e => ?_, fun y hy => ?_, h.pl, h.ml⟩
  · obtain ⟨x, hx, e, c | c⟩ := hin y hy
    · rw [c.2]; exact hblk
    · rw [c.2]
      exact ho _ _ (h.cell x hx) (fun e2 => c.1 (by rw [h.inj x hx r hr e2]))
  · obtain ⟨x, hx, ex, cx⟩ := hin y hy
    obtain ⟨u, hu, eu, cu⟩ := hin z hz
    rw [ex, eu] at e
    have exu := h.inj x hx u hu e
    subst exu
    rcases cx with c | c
    · rcases cu with d | d
      · rw [c.2, d.2]
      · exact absurd (by rw [c.1]) d.1
    · rcases cu with d | d
      · exact absurd (by rw [d.1]) c.1
      · rw [c.2, d.2]
  · obtain ⟨x, hx, e, _⟩ := hin y hy
    rw [e]; exact h.lo x hx
theorem sl_stayM {α : Type} {U : Nat → Prop} {W W' : World} {B sz n : Nat} {f : α → List Value} {A : Option Addr} {l : List α} (h : Sl W B f sz A n l) (hs : ∀ k o, W.heap[k]? = some o → U k → W'.heap[k]? = some o) (hu : 0 < n → ∀ b o, A = some ⟨b, o, none⟩ → U b) : Sl W' B f sz A n l := by
  refine ⟨h.len, fun h0 => ?_⟩
  obtain ⟨b, o, e, hlt, hc⟩ := h.cells h0
  refine ⟨b, o, e, hlt, fun i a ha j v hv => ?_⟩
  have h1 := hc i a ha j v hv
  have h2 := hu h0 b o e
  unfold World.cell? at h1 ⊢
  cases hb : W.heap[b]? with
  | none => simp [hb] at h1
  | some ob => rw [hs b ob hb h2]; rw [hb] at h1; exact h1
set_option maxRecDepth 100000 in
set_option maxHeartbeats 8000000 in
theorem Move_any {B p mb mn : Nat} {last : Int} {sv : Value} {l : List Pr} {bk : List UInt8 → Nat} {w : World} (h : BM B w p mb mn last sv l bk) (id : Int) (A : Option Addr) (n c : Nat) (ps : List (List UInt8)) (hs : Sl w w.heap.size se 1 A n ps)
    (hin : ∀ s ∈ ps, s ∈ l.map Pr.p) (hsz : ∀ s ∈ ps, s.length ≤ maxLen) (hsep : 0 < n → ∀ b o, A = some ⟨b, o, none⟩ → ¬ ∃ r ∈ l, b = bk r.p) (hn : n ≤ 100000) (hBz : B ≤ w.heap.size) :
    Calls Tryz.prog 32 #[.pointer (some ⟨p, 0, none⟩), .slice A n c, .int .i64 id] w fun e w' => e = .returned (.tuple #[]) ∧ BM B w' p mb mn last sv (mvL ps id l) bk ∧ Keep B (fun k => ∃ r ∈ l, k = bk r.p) w w' := by
  have HS := hide hs
  have HIN := hide hin
  have HSZ := hide hsz
  have HSEP := hide hsep
  have hnl : ps.length = n := hs.len
  have HH := hide h
  clear hs hin hsz hsep h
  go_enter Tryz.func32, Tryz.ntmps32
  go_wp2_with (fail)
  go_loopw [10] (fun ti wr => ∃ j : Nat, j ≤ n ∧ ti = .int .i64 (j : Int) ∧ BM B wr p mb mn last sv (mvL (ps.take j) id l) bk ∧ Keep B (fun k => ∃ r ∈ l, k = bk r.p) w wr) (fun ti _ => n - (intOf ti).toNat)
  case atStart => exact ⟨0, Nat.zero_le _, rfl, by rw [List.take_zero, mvL_nil]; exact HH.out, Keep.refl _ _ _⟩
  case round =>
    obtain ⟨j, hj, rfl, hM, hK⟩ := hrel
    by_cases hjn : j < n
    · have hS := sl_stayM (U := fun k => ¬ ∃ r ∈ l, k = bk r.p) HS.out (fun k o e u => hK.keep k o e u) HSEP.out
      have hS2 : Sl wr wr.heap.size se 1 A n ps := ⟨hS.len, fun h0 => by obtain ⟨b, o, e, hlt, hc⟩ := hS.cells h0; exact ⟨b, o, e, Nat.lt_of_lt_of_le hlt hK.be.size, hc⟩⟩
      obtain ⟨bb, oo, s, hA, hbb, hx, hc⟩ := hS2.at_ hjn
      have hsm := List.mem_of_getElem? hx
      have hsl := HSZ.out s hsm
      have d0 : wr.cell? ⟨bb, oo + j, none⟩ = some (encStr s) := by simpa [se] using hc 0 _ rfl
      have hk0 := HIN.out s hsm
      rw [← mvL_keys (ps.take j) id l] at hk0
      obtain ⟨r, hr, hrp⟩ := List.mem_map.1 hk0
      obtain ⟨D, hD1, hD2⟩ := hM.map
      have HAT := hide (hD2.in_ r.p (List.mem_map.2 ⟨r, hr, rfl⟩))
      have HKY := hide (key_s ⟨s.toArray⟩ (by simpa [ByteArray.size] using hsl))
      have HT := hide (show mvL (ps.take (j + 1)) id l = mvL [s] id (mvL (ps.take j) id l) by rw [mvL_one, take_succ_get hx])
      have hbc := hM.cell r hr
      have hBk := hM.lo r hr
      obtain ⟨k, hk⟩ : ∃ k, bk r.p = k := ⟨_, rfl⟩
      rw [hk] at hbc HAT hBk
      have x0 : wr.cell? ⟨p, 0, none⟩ = some (.map (some mb)) := (block_cell hM.box 0).trans rfl
      have HR := hide hr
      have HRP := hide hrp
      have HKK := hide hk
      have HM := hide hM
      have HK := hide hK
      have HD := hide hD1
      have hPk : ∃ r ∈ l, k = bk r.p := by
        obtain ⟨y, hy, e, _⟩ := mem_mvL hr
        exact ⟨y, hy, by rw [← hk, e]⟩
      clear hr hrp hk hM hK hS hS2 hc hx hD1 hD2 hk0
      subst hA
      obtain ⟨rp, rg, rv, rw_, rf, rl⟩ := r
      simp only at HAT HRP HKK hbc
      have HC := hide (show wr.heap[k]? = some (.cells #[.int .i64 rg, .int .i64 rv, .int .i64 rw_, .int .i64 rf, .int .i64 rl] 60 (0, 0)) from hbc)
      have c0 : wr.cell? ⟨k, 0, none⟩ = some (.int .i64 rg) := (block_cell HC.out 0).trans rfl
      have f0 := block_free HC.out 0
      have hjn' : (j : Int) < (n : Int) := by omega
      clear hbc
      subst hnl
      unfold encStr at d0
      go_wp2_with (at_lookup; refine wpList_lookup_some _ rfl _ _ 53 rfl 9 58 law_s Tryz.underlying53 (zero_c _) mb mn D rfl HD.out (.string ⟨s.toArray⟩) _ rfl HKY.out k (fun z => HRP.out ▸ HAT.out z) ?_)
      go_roundw
      case rel =>
        refine ⟨j + 1, by omega, by go_num, ?_, HK.out.trans (Keep.set _ 0 _ hBk hPk)⟩
        rw [HT.out, ← HRP.out]
        exact BM.mv HM.out HR.out id (by show (_ : World).heap[bk rp]? = _; rw [HKK.out]; exact block_set HC.out _) (fun i o e ne => block_set_other e _ _ (by rw [← HKK.out]; exact ne))
      case measure => simp [intOf]; omega
    · have hje : j = n := by omega
      have HM := hide (show BM B wr p mb mn last sv (mvL ps id l) bk by rw [hje, ← hnl, List.take_length] at hM; exact hM)
      have HK := hide hK
      clear hM hK
      go_wp2_with (fail)
      refine bodyPost_end (results_none rfl _ _ _) rfl ?_
      exact ⟨rfl, HM.out, HK.out⟩
end Go.Proofs.YtapfcnfmonknjaaGreatDoor.Bk
