/- Walk of slices.Concat at frames. -/
import Derived.Test.YtbfhicimjijdeaaDoorStClone
namespace Go.Proofs.YtbfhicimjijdeaaDoor
open Go.RowKit Go.Joins
set_option linter.unusedVariables false
/-- A part that is put together with others. -/
structure PartT where
  A : Option Addr
  n : Nat
  cap : Nat
  frs : List Frame
def PartT.cs (x : PartT) : List Value := [.slice x.A x.n x.cap]
def flat (ps : List PartT) : List Frame := ps.flatMap fun p => p.frs
def PartsOk (w : World) (ps : List PartT) : Prop := ∀ p ∈ ps, Sl w w.heap.size Frame.cs 6 p.A p.n p.frs ∧ p.A ≠ none
theorem flat_snoc {ps : List PartT} {k : Nat} {p : PartT} (h : ps[k]? = some p) : flat (ps.take (k + 1)) = flat (ps.take k) ++ p.frs := by rw [take_succ_get h]; simp [flat]
theorem flat_take_le (ps : List PartT) (k : Nat) : (flat (ps.take k)).length ≤ (flat ps).length := by
  have e : flat ps = flat (ps.take k) ++ flat (ps.drop k) := by rw [flat, flat, flat, ← List.flatMap_append, List.take_append_drop]
  rw [e, List.length_append]; omega
set_option maxRecDepth 100000 in
set_option maxHeartbeats 4000000 in
theorem Concat_any (B : Option Addr) (m c : Nat) (ps : List PartT) (w : World) (hm : m ≤ 1000000) (hs : (flat ps).length ≤ 1000000) (hl : Sl w w.heap.size PartT.cs 1 B m ps) (hp : PartsOk w ps) :
    Calls Tryd.prog 37 #[.slice B m c] w (Gives1 (flat ps) w) := by
  have HL := hide hl.len
  have HP := hide hp
  have HSUM := hide hs
  obtain ⟨i0, hi0, iz0, iz1, iz2⟩ := info_parts info_frame
  clear hp hs
  go_enter Tryd.func37, Tryd.ntmps37
  go_wp2_with (fail)
  go_loop [3, 11] (fun s i => ∃ k t : Nat, k ≤ m ∧ i = .int .i64 k ∧ t = (flat (ps.take k)).length ∧ s = .int .i64 t) (fun _ i => m - (intOf i).toNat)
  case atStart => exact ⟨0, 0, Nat.zero_le _, rfl, rfl, rfl⟩
  case round =>
    obtain ⟨k, t, hk, rfl, ht, rfl⟩ := hrel
    have htb : t ≤ 1000000 := by have := flat_take_le ps k; have := HSUM.out; omega
    have HT := hide ht
    clear ht
    by_cases hlt : k < m
    · obtain ⟨bb, oo, p, rfl, hbb, hx, hc⟩ := hl.at_ hlt
      have c0 := hc 0 _ rfl
      simp only [Nat.mul_one, Nat.add_zero] at c0
      have HX := hide hx
      have hfl := flat_snoc hx
      have hpl := (HP.out p (List.mem_of_getElem? hx)).1.len
      have hpn : t + p.n ≤ 1000000 := by
        have h1 := flat_take_le ps (k + 1)
        have h2 := HSUM.out
        rw [hfl, List.length_append, ← HT.out] at h1
        omega
      have HFL := hide (show t + p.n = (flat (ps.take (k + 1))).length by rw [hfl, List.length_append, ← HT.out, hpl])
      have hneg : decide ((t : Int) + (p.n : Int) < 0) = false := by simp; omega
      clear hc hx hfl hpl
      go_wp2_with (fail)
      go_round
      case rel => exact ⟨k + 1, t + p.n, by omega, by go_num, HFL.out, by go_num⟩
      case measure => simp [intOf]; omega
    · have HALL := hide (show t = (flat ps).length by have := HT.out; rw [take_len ps (by have := HL.out; omega)] at this; exact this)
      go_wp2_with (go_at_call 54; refine (Grow_nil t _ htb).mono ?_; rintro r w1 ⟨v1, rfl, hown1, hB1⟩)
      have HOWN1 := hide hown1
      clear hown1 hlt hk
      go_loopw [6, 27] (fun v i wr => ∃ k t : Nat, k ≤ m ∧ i = .int .i64 k ∧ t = (flat (ps.take k)).length ∧ wr.ownsRow w.heap.size 39 6 v t ((flat (ps.take k)).flatMap Frame.cs) ∧ Below w.heap.size w wr) (fun _ i _ => m - (intOf i).toNat)
      case atStart => exact ⟨0, 0, Nat.zero_le _, rfl, rfl, HOWN1.out, hB1⟩
      case round =>
        obtain ⟨k, t, hk, rfl, ht, hown, hB⟩ := hrel
        have htb : t ≤ 1000000 := by have := flat_take_le ps k; have := HSUM.out; omega
        have HT := hide ht
        have HOWN := hide hown
        have hz := hB.size
        clear ht hown
        by_cases hlt : k < m
        · obtain ⟨bb, oo, p, rfl, hbb, hx, hc⟩ := (hl.below hB).at_ hlt
          have c0 := hc 0 _ rfl
          simp only [Nat.mul_one, Nat.add_zero] at c0
          have HX := hide hx
          have hfl := flat_snoc hx
          have hpo := (HP.out p (List.mem_of_getElem? hx)).1.up hB
          have hpa := (HP.out p (List.mem_of_getElem? hx)).2
          have hpl := hpo.len
          have hpn : t + p.n ≤ 1000000 := by
            have h1 := flat_take_le ps (k + 1)
            have h2 := HSUM.out
            rw [hfl, List.length_append, ← HT.out] at h1
            omega
          have HFL := hide (show t + p.n = (flat (ps.take (k + 1))).length by rw [hfl, List.length_append, ← HT.out, hpl])
          have HFF := hide hfl
          have HPL := hide hpl
          obtain ⟨PA, pn, pc, pf⟩ := p
          simp only at c0
          simp only at hpo hpl hpn HFL HFF HPL
          cases PA with
          | none =>
            exact absurd rfl hpa
          | some ad =>
            have hnew := hide (Sl.news' (f := Frame.cs) (sz := 6) (fun _ => rfl) hpo)
            clear hc hx hfl hpl hpo hpa
            go_wp2_with (at_builtin; refine wpList_append_own _ rfl (.tmp 31) (.tmp 32) 30 rfl w.heap.size 39 i0 (.agg #[.string ByteArray.empty, .string ByteArray.empty, .string ByteArray.empty, .int .i64 0, .int .i64 0, .bool false]) 6 72 Tryd.underlying30 hi0 iz0 iz1 iz2 rfl (by decide) _ t _ (by rfl) HOWN.out ad pn _ (pf.flatMap Frame.cs) (by rfl) (by rw [flatMap_len (sz := 6) (fun _ => rfl), HPL.out]) hnew.out (frames_cells _) (by unfold maxLen; omega) (by omega) hz ?_; intro v' w5 hown5 hg5 _; have hB5 : Below w.heap.size w w5 := Below.grown hB hg5 hz (fun j hj => (World.ownsRow.lt HOWN.out j hj).1); clear hg5)
            go_roundw
            case rel => exact ⟨k + 1, t + pn, by omega, by go_num, HFL.out, by rw [HFF.out, List.flatMap_append]; exact hown5, hB5⟩
            case measure => simp [intOf]; omega
        · have hall : t = (flat ps).length ∧ wr.ownsRow w.heap.size 39 6 u6 t ((flat ps).flatMap Frame.cs) := by
            have h1 := HT.out
            have h2 := HOWN.out
            rw [take_len ps (by have := HL.out; omega)] at h1 h2
            exact ⟨h1, h2⟩
          obtain ⟨A', c', rfl, hsl, hcc, _⟩ := sl_of_own (f := Frame.cs) (l := flat ps) (fun _ => rfl) hall.1.symm hall.2
          have HSL := hide hsl
          clear hall hsl HOWN
          go_wp2_with (fail)
          go_ret
          exact ⟨A', t, c', rfl, HSL.out, hB, hcc⟩
end Go.Proofs.YtbfhicimjijdeaaDoor
