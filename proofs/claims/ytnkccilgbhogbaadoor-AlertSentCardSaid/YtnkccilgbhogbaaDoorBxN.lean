/- slices.Concat at posts. -/
import Derived.Test.YtnkccilgbhogbaaDoorBxK
import Derived.Lib.AppendZerosOnto
import Derived.Lib.SliceRun
import Derived.Laws.AppendOwnNone
namespace Go.Proofs.YtnkccilgbhogbaaDoor
open Go.RowKit
set_option linter.unusedVariables false
set_option linter.unusedSimpArgs false
theorem pos_cells (L : List Po) : ∀ u ∈ L.flatMap Po.cs, u.oneCell' = true := by
  intro u hu
  obtain ⟨x, _, hx⟩ := List.mem_flatMap.1 hu
  simp [Po.cs] at hx
  rcases hx with rfl | rfl | rfl | rfl <;> rfl
def Gives1 (L : List Po) (W : World) (e : Ending) (w' : World) : Prop := ∃ A N c, e = .returned (.slice A N c) ∧ Sl w' w'.heap.size Po.cs 4 A N L ∧ Below W.heap.size W w' ∧ N ≤ c
theorem Sl.news' {α : Type} {w : World} {B sz n : Nat} {f : α → List Value} {ad : Addr} {l : List α} (hf : ∀ a, (f a).length = sz) (h : Sl w B f sz (some ad) n l) : ∀ j u, (l.flatMap f)[j]? = some u → w.cell? (ad.add j) = some u := by
  rcases Nat.eq_zero_or_pos n with h0 | h0
  · have : l = [] := List.eq_nil_of_length_eq_zero (by rw [h.len]; exact h0)
    subst this
    intro j u hu
    simp at hu
  · obtain ⟨b, o, e, _⟩ := h.cells h0
    obtain rfl := Option.some.inj e
    exact Sl.news hf h
set_option maxRecDepth 100000 in
set_option maxHeartbeats 4000000 in
theorem Grow_nil (n : Nat) (w : World) (hn : n ≤ 1000000) :
    Calls Tryd.prog 42 #[.slice none 0 0, .int .i64 n] w fun e w' => ∃ v, e = .returned v ∧ w'.ownsRow w.heap.size 41 4 v 0 [] ∧ Below w.heap.size w w' := by
  obtain ⟨i0, hi0, iz0, iz1, iz2⟩ := info_parts9 info_pst
  rcases Nat.eq_zero_or_pos n with h0 | h0
  · subst h0
    go_enter Tryd.func42, Tryd.ntmps42
    go_wp2_with (fail)
    go_ret
    exact ⟨_, rfl, World.ownsRow_nil _ _ _ _, Below.refl _ _⟩
  · have hge := grownCap_ge w (0 + n) 0 41
    have hle := grownCap_le_maxLen w (0 + n) 0 41 (by unfold maxLen; omega)
    have hrun := fun ty => Lib.run_append_grow_zeros (P := Tryd.prog) w 36 3 ty 41 i0 _ .i64 .i64 Tryd.underlying36 Tryd.underlying3 hi0 iz0 none 0 0 [] (run_firstCells_none _ _ _ _ _) n h0 (by omega) (by omega) (by omega) (by rw [iz2]; omega) (growslice_fits (by omega) (by rw [iz2]; omega))
    obtain ⟨C, hC⟩ : ∃ C, grownCap w (0 + n) 0 41 = C := ⟨_, rfl⟩
    rw [hC] at hge hle hrun
    have hsz : (([] : List Value).toArray ++ Builtin.zeroCells (Value.agg #[.int .i64 0, .slice none 0 0, .int .i64 0, .int .i64 0]).cells n ++ Builtin.zeroCells (Value.agg #[.int .i64 0, .slice none 0 0, .int .i64 0, .int .i64 0]).cells (C - (0 + n))).size = C * 4 := by
      simp only [Array.size_append, List.size_toArray, List.length_nil, size_zeroCells]
      rw [show (Value.agg #[.int .i64 0, .slice none 0 0, .int .i64 0, .int .i64 0]).cells.size = 4 from rfl]
      omega
    generalize (([] : List Value).toArray ++ Builtin.zeroCells (Value.agg #[.int .i64 0, .slice none 0 0, .int .i64 0, .int .i64 0]).cells n ++ Builtin.zeroCells (Value.agg #[.int .i64 0, .slice none 0 0, .int .i64 0, .int .i64 0]).cells (C - (0 + n))) = Z at hsz hrun
    have HSZ := hide hsz
    have HC := hide hC
    simp only [Nat.zero_add] at hrun hge
    have HR := hide hrun
    have hC63 : C ≤ 9223372036854775807 := by unfold maxLen at hle; omega
    have hn1 : (n : Int) ≤ 1000000 := by omega
    have hn2 : (0 : Int) < n := by omega
    clear hsz hC hrun
    go_enter Tryd.func42, Tryd.ntmps42
    go_wp2_with (at_builtin; refine Lib.wpList_append_run _ rfl _ _ _ _ rfl _ _ rfl rfl _ _ (HR.out _) ?_)
    go_ret
    refine ⟨_, rfl, ⟨rfl, .inr ⟨w.heap.size, C, Z, rfl, Nat.le_refl _, heap_alloc_new w.drew _, Nat.zero_le _, hle, HSZ.out, by simp⟩⟩, (Below.refl _ _).drew.alloc (Nat.le_refl _) _⟩
/-- A part that is put together with others. -/
structure PartT where
  A : Option Addr
  n : Nat
  cap : Nat
  frs : List Po
def PartT.cs (x : PartT) : List Value := [.slice x.A x.n x.cap]
def flat (ps : List PartT) : List Po := ps.flatMap fun p => p.frs
def PartsOk (w : World) (ps : List PartT) : Prop := ∀ p ∈ ps, Sl w w.heap.size Po.cs 4 p.A p.n p.frs ∧ (p.A = none → p.cap = 0)
theorem flat_snoc {ps : List PartT} {k : Nat} {p : PartT} (h : ps[k]? = some p) : flat (ps.take (k + 1)) = flat (ps.take k) ++ p.frs := by rw [take_succ_get h]; simp [flat]
theorem flat_take_le (ps : List PartT) (k : Nat) : (flat (ps.take k)).length ≤ (flat ps).length := by
  have e : flat ps = flat (ps.take k) ++ flat (ps.drop k) := by rw [flat, flat, flat, ← List.flatMap_append, List.take_append_drop]
  rw [e, List.length_append]; omega
set_option maxRecDepth 100000 in
set_option maxHeartbeats 4000000 in
theorem Concat_any (B : Option Addr) (m c : Nat) (ps : List PartT) (w : World) (hm : m ≤ 1000000) (hs : (flat ps).length ≤ 1000000) (hl : Sl w w.heap.size PartT.cs 1 B m ps) (hp : PartsOk w ps) :
    Calls Tryd.prog 23 #[.slice B m c] w (Gives1 (flat ps) w) := by
  have HL := hide hl.len
  have HP := hide hp
  have HSUM := hide hs
  obtain ⟨i0, hi0, iz0, iz1, iz2⟩ := info_parts9 info_pst
  clear hp hs
  go_enter Tryd.func23, Tryd.ntmps23
  go_wp2_with (fail)
  go_loop [3, 11] (fun s i => ∃ k t : Nat, k ≤ m ∧ i = .int .i64 k ∧ t = (flat (ps.take k)).length ∧ s = .int .i64 t) (fun _ i => m - (intOf i).toNat)
  case atStart => exact ⟨0, 0, Nat.zero_le _, rfl, rfl, rfl⟩
  case round =>
    obtain ⟨k, t, hk, rfl, ht, rfl⟩ := hrel
    have htb : t ≤ 1000000 := by have := flat_take_le ps k; have := HSUM.out; omega
    have HT := hide ht
    clear ht
    by_cases hlt : k < m
    · obtain ⟨bb, oo, p, rfl, hbb, hx, hc⟩ := hl.at_ hlt
      have c0 := hc 0 _ rfl
      simp only [Nat.mul_one, Nat.add_zero] at c0
      have HX := hide hx
      have hfl := flat_snoc hx
      have hpl := (HP.out p (List.mem_of_getElem? hx)).1.len
      have hpn : t + p.n ≤ 1000000 := by
        have h1 := flat_take_le ps (k + 1)
        have h2 := HSUM.out
        rw [hfl, List.length_append, ← HT.out] at h1
        omega
      have HFL := hide (show t + p.n = (flat (ps.take (k + 1))).length by rw [hfl, List.length_append, ← HT.out, hpl])
      have hneg : decide ((t : Int) + (p.n : Int) < 0) = false := by simp; omega
      clear hc hx hfl hpl
      go_wp2_with (fail)
      go_round
      case rel => exact ⟨k + 1, t + p.n, by omega, by go_num, HFL.out, by go_num⟩
      case measure => simp [intOf]; omega
    · have HALL := hide (show t = (flat ps).length by have := HT.out; rw [take_len ps (by have := HL.out; omega)] at this; exact this)
      go_wp2_with (go_at_call 42; refine (Grow_nil t _ htb).mono ?_; rintro r w1 ⟨v1, rfl, hown1, hB1⟩)
      have HOWN1 := hide hown1
      clear hown1 hlt hk
      go_loopw [6, 27] (fun v i wr => ∃ k t : Nat, k ≤ m ∧ i = .int .i64 k ∧ t = (flat (ps.take k)).length ∧ wr.ownsRow w.heap.size 41 4 v t ((flat (ps.take k)).flatMap Po.cs) ∧ Below w.heap.size w wr) (fun _ i _ => m - (intOf i).toNat)
      case atStart => exact ⟨0, 0, Nat.zero_le _, rfl, rfl, HOWN1.out, hB1⟩
      case round =>
        obtain ⟨k, t, hk, rfl, ht, hown, hB⟩ := hrel
        have htb : t ≤ 1000000 := by have := flat_take_le ps k; have := HSUM.out; omega
        have HT := hide ht
        have HOWN := hide hown
        have hz := hB.size
        clear ht hown
        by_cases hlt : k < m
        · obtain ⟨bb, oo, p, rfl, hbb, hx, hc⟩ := (hl.below hB).at_ hlt
          have c0 := hc 0 _ rfl
          simp only [Nat.mul_one, Nat.add_zero] at c0
          have HX := hide hx
          have hfl := flat_snoc hx
          have hpo := (HP.out p (List.mem_of_getElem? hx)).1.up hB
          have hpc := (HP.out p (List.mem_of_getElem? hx)).2
          have hpl := hpo.len
          have hpn : t + p.n ≤ 1000000 := by
            have h1 := flat_take_le ps (k + 1)
            have h2 := HSUM.out
            rw [hfl, List.length_append, ← HT.out] at h1
            omega
          have HFL := hide (show t + p.n = (flat (ps.take (k + 1))).length by rw [hfl, List.length_append, ← HT.out, hpl])
          have HFF := hide hfl
          have HPL := hide hpl
          obtain ⟨PA, pn, pc, pf⟩ := p
          simp only at c0
          simp only at hpo hpl hpn HFL HFF HPL hpc
          cases PA with
          | none =>
            have hp0 : pn = 0 := by
              rcases Nat.eq_zero_or_pos pn with h0 | h0
              · exact h0
              · obtain ⟨b, o, e, _⟩ := hpo.cells h0; cases e
            subst hp0
            have hpf : pf = [] := List.eq_nil_of_length_eq_zero (by rw [HPL.out])
            subst hpf
            have hpc0 : pc = 0 := hpc rfl
            subst hpc0
            clear hc hx hfl hpl hpo hpc
            go_wp2_with (at_builtin; refine wpList_append_own_none rfl (.tmp 31) (.tmp 32) 36 rfl w.heap.size 41 i0 4 Tryd.underlying36 hi0 _ t _ (by rfl) HOWN.out (by rfl) ?_)
            go_roundw
            case rel => exact ⟨k + 1, t, by omega, by go_num, by have := HFL.out; simpa using this, by rw [HFF.out, List.append_nil]; exact HOWN.out, hB⟩
            case measure => simp [intOf]; omega
          | some ad =>
            have hnew := hide (Sl.news' (f := Po.cs) (sz := 4) (fun _ => rfl) hpo)
            clear hc hx hfl hpl hpo hpc
            go_wp2_with (at_builtin; refine wpList_append_own _ rfl (.tmp 31) (.tmp 32) 36 rfl w.heap.size 41 i0 (.agg #[.int .i64 0, .slice none 0 0, .int .i64 0, .int .i64 0]) 4 48 Tryd.underlying36 hi0 iz0 iz1 iz2 rfl (by decide) _ t _ (by rfl) HOWN.out ad pn _ (pf.flatMap Po.cs) (by rfl) (by rw [flatMap_len (sz := 4) (fun _ => rfl), HPL.out]) hnew.out (pos_cells _) (by unfold maxLen; omega) (by omega) hz ?_; intro v' w5 hown5 hg5 _; have hB5 : Below w.heap.size w w5 := Below.grown hB hg5 hz (fun j hj => (World.ownsRow.lt HOWN.out j hj).1); clear hg5)
            go_roundw
            case rel => exact ⟨k + 1, t + pn, by omega, by go_num, HFL.out, by rw [HFF.out, List.flatMap_append]; exact hown5, hB5⟩
            case measure => simp [intOf]; omega
        · have hall : t = (flat ps).length ∧ wr.ownsRow w.heap.size 41 4 u6 t ((flat ps).flatMap Po.cs) := by
            have h1 := HT.out
            have h2 := HOWN.out
            rw [take_len ps (by have := HL.out; omega)] at h1 h2
            exact ⟨h1, h2⟩
          obtain ⟨A', c', rfl, hsl, hcc, _⟩ := sl_of_own (f := Po.cs) (l := flat ps) (fun _ => rfl) hall.1.symm hall.2
          have HSL := hide hsl
          clear hall hsl HOWN
          go_wp2_with (fail)
          go_ret
          exact ⟨A', t, c', rfl, HSL.out, hB, hcc⟩
end Go.Proofs.YtnkccilgbhogbaaDoor
