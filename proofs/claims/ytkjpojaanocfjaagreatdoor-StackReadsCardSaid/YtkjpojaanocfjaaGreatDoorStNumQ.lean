/- Walk of the reference's number (printed by gen_sr2.py). -/
import Derived.Test.YtkjpojaanocfjaaGreatDoorStNumR
import Derived.Test.YtkjpojaanocfjaaGreatDoorShelf
import Derived.Test.YtkjpojaanocfjaaGreatDoorRegChain
import Derived.WalkKit
import Derived.BigCall
import Derived.BigGuard
import Derived.BigQuiet
namespace Go.Proofs.YtkjpojaanocfjaaGreatDoor
open Go.RowKit
set_option linter.unusedVariables false
set_option linter.unusedSimpArgs false
theorem dgI_at : ∀ k, k < 256 → (Lib.indexByte (dg16.extract 0 10).data.toList (UInt8.ofNat k) = if dgt 10 (UInt8.ofNat k) then (dgtV (UInt8.ofNat k) : Int) else -1) ∧ (Lib.indexByte (dg16.extract 0 16).data.toList (UInt8.ofNat k) = if dgt 16 (UInt8.ofNat k) then (dgtV (UInt8.ofNat k) : Int) else -1) := by decide +kernel
theorem dgI_of (b : Nat) (hb : b = 10 ∨ b = 16) (c : UInt8) : Lib.indexByte (dg16.extract 0 b).data.toList ((c.toNat : Int)).toNat.toUInt8 = if dgt b c then (dgtV c : Int) else -1 := by
  have h1 : (UInt8.ofNat c.toNat) = c := UInt8.ofNat_toNat
  have := dgI_at c.toNat (UInt8.toNat_lt c)
  rw [h1] at this
  rw [show ((c.toNat : Int)).toNat.toUInt8 = c by simp]
  rcases hb with rfl | rfl
  · exact this.1
  · exact this.2
theorem str_len' (s : ByteArray) : s.data.toList.length = s.size := by rw [Array.length_toList]; rfl
set_option maxRecDepth 100000 in
set_option maxHeartbeats 16000000 in
theorem rnumber_10 (s : ByteArray) (m : Nat) (w : World) (hm : m ≤ 12) (hs : s.size ≤ 4611686018427387904) :
    Calls Tryz.prog 32 #[.string s, .int .i64 10, .int .i64 m] w fun e w' => e = .returned (.tuple #[.int .i64 (numO 10 m s), .bool (numK 10 m s)]) ∧ Below w.heap.size w w' := by
  by_cases h0 : s.size = 0
  · have E := hide (numR_no (b := 10) (m := m) (.inl h0))
    have h0' : (s.size : Int) < 1 := by omega
    have h0n : s.size < 1 := by omega
    rw [E.out.1, E.out.2]
    go_enter Tryz.func32, Tryz.ntmps32
    go_wp2_with (first | go_quiet (fail))
    go_ret2
    exact ⟨rfl, by first | exact Below.refl _ _ | exact below_drewN (Below.refl _ _) _⟩
  · have hp : 1 ≤ s.size := by omega
    have h0' : ¬ (s.size : Int) < 1 := by omega
    have h0d : decide ((s.size : Int) < 1) = false := by simp; omega
    by_cases h1 : m < s.size
    · have E := hide (numR_no (b := 10) (.inr (.inl h1)))
      have h1' : (m : Int) < (s.size : Int) := by omega
      rw [E.out.1, E.out.2]
      go_enter Tryz.func32, Tryz.ntmps32
      go_wp2_with (first | go_quiet (fail))
      go_ret2
      exact ⟨rfl, by first | exact Below.refl _ _ | exact below_drewN (Below.refl _ _) _⟩
    · have h1' : ¬ (m : Int) < (s.size : Int) := by omega
      have h1d : decide ((m : Int) < (s.size : Int)) = false := by simp; omega
      have h1n : decide (m < s.size) = false := by simp; omega
      have hget : s.data.toList[0]? = some s[0] := by rw [List.getElem?_eq_getElem (by rw [Array.length_toList]; exact hp)]; rfl
      by_cases h2 : 1 < s.size ∧ s.data.toList[0]? = some 48
      · have E := hide (numR_no (b := 10) (m := m) (.inr (.inr h2)))
        obtain ⟨h3, h4⟩ := h2
        rw [hget] at h4
        have h48 : s[0] = 48 := Option.some.inj h4
        have h4' : (s[0].toNat : Int) = 48 := by rw [h48]; rfl
        have h4n : s[0].toNat = 48 := by rw [h48]; rfl
        have h3' : (1 : Int) < (s.size : Int) := by omega
        rw [E.out.1, E.out.2]
        clear h4 h48 hget
        go_enter Tryz.func32, Tryz.ntmps32
        go_wp2_with (first | go_quiet (fail))
        go_ret2
        exact ⟨rfl, by first | exact Below.refl _ _ | exact below_drewN (Below.refl _ _) _⟩
      · have hno := hide (show ¬ (s.size = 0 ∨ m < s.size ∨ (1 < s.size ∧ s.data.toList[0]? = some 48)) by rintro (h | h | h); exact h0 h; exact h1 h; exact h2 h)
        have h12 : s.size ≤ 12 := by omega
        by_cases h3 : 1 < s.size
        · have h3' : (1 : Int) < (s.size : Int) := by omega
          have h48 : ¬ s[0].toNat = 48 := fun e => h2 ⟨h3, by rw [hget]; congr 1; exact UInt8.toNat_inj.1 e⟩
          have h4' : ¬ (s[0].toNat : Int) = 48 := by omega
          have h4b : ((s[0].toNat : Int) == 48) = false := by rw [beq_eq_false_iff_ne]; omega
          clear h2 hget
          go_enter Tryz.func32, Tryz.ntmps32
          go_wp2_with (first | go_quiet (fail))
          go_loopw [32, 8] (fun vi vn wr => ∃ (k : Nat) (a : Int), k ≤ s.size ∧ vi = .int .i64 k ∧ vn = .int .i64 a ∧ Hid (a = ((numV 10 (s.data.toList.take k) : Nat) : Int) ∧ ∀ c ∈ s.data.toList.take k, dgt 10 c = true) ∧ Below w.heap.size w wr) (fun vi _ _ => s.size - (intOf vi).toNat)
          case atStart => exact ⟨0, 0, Nat.zero_le _, rfl, rfl, hide ⟨rfl, fun c hc => by cases hc⟩, by first | exact Below.refl _ _ | exact below_drewN (Below.refl _ _) _⟩
          case round =>
            obtain ⟨k, a, hk, rfl, rfl, HA, hb⟩ := hrel
            have HB := hide hb
            clear hb
            have ha : 0 ≤ a ∧ a < 281474976710656 := by
              have h := numV_12 (b := 10) (by decide) (l := s.data.toList.take k) (k := k) (by rw [List.length_take, str_len']; omega) (by rw [List.length_take, str_len']; omega) HA.out.2
              rw [List.take_take, Nat.min_self] at h
              have := HA.out.1
              omega
            obtain ⟨a0, a1⟩ := ha
            by_cases hlt : k < s.size
            · obtain ⟨C, hC⟩ : ∃ C, s[k] = C := ⟨_, rfl⟩
              have HT := hide (show s.data.toList.take (k + 1) = s.data.toList.take k ++ [C] by rw [take_snoc s k hlt, hC])
              have hlt' : (k : Int) < (s.size : Int) := by omega
              have CI := hide (fun W => Tryz.strings_IndexByte (dg16.extract 0 10) (C.toNat : Int) W)
              rw [dgI_of 10 (by decide) C] at CI
              unfold dg16 at CI
              cases hdc : dgt 10 C
              · have HF := hide (show s.data.toList.all (dgt 10) = false from all_take_false s _ k hlt (by rw [hC]; exact hdc))
                rw [hdc, if_neg (by decide)] at CI
                obtain ⟨mz, hmz⟩ : ∃ mz : Int, -1 = mz := ⟨_, rfl⟩
                rw [hmz] at CI
                have hneg : mz < 0 := by omega
                have E := hide (numR_bad (b := 10) (m := m) hno.out HF.out)
                clear hmz
                go_wp2_with (fail)
                have HS : True := trivial
                refine wp_region_chain (fun _ => True) 5 (by as_aux_lemma => kernel_rfl) (N := 7) (by as_aux_lemma => kernel_rfl) ?_; intro hsh
                have HS : True := trivial
                refine wpAnyC_take0 (i := 0) (k := 5) (v := ?_) (d := some 35) rfl (by rfl) (by as_aux_lemma => kernel_rfl) (by as_aux_lemma => kernel_rfl) (by as_aux_lemma => kernel_rfl) hsh (by decide) (by intro _ _ _ h; exact h) (by assumption) (Or.inl ⟨by rfl, ?hy⟩) ?_; (case hy => (intro W _; go_simp; (try with_reducible rfl))); clear hsh; intro hsh
                refine wpAnyC_take0 (i := 1) (k := 5) (v := ?_) (d := some 36) rfl (by rfl) (by as_aux_lemma => kernel_rfl) (by as_aux_lemma => kernel_rfl) (by as_aux_lemma => kernel_rfl) hsh (by decide) (by intro _ _ _ h; exact h) (by assumption) (Or.inl ⟨by rfl, ?hy⟩) ?_; (case hy => (intro W _; go_simp; (try with_reducible rfl))); clear hsh; intro hsh
                refine wpAnyC_take0 (i := 2) (k := 5) (v := ?_) (d := some 37) rfl (by rfl) (by as_aux_lemma => kernel_rfl) (by as_aux_lemma => kernel_rfl) (by as_aux_lemma => kernel_rfl) hsh (by decide) (by intro _ _ _ h; exact h) (by assumption) (Or.inl ⟨by rfl, ?hy⟩) ?_; (case hy => (intro W _; go_simp; (try with_reducible rfl))); clear hsh; intro hsh
                refine wpAnyC_take0 (i := 3) (k := 5) (v := ?_) (d := some 38) rfl (by rfl) (by as_aux_lemma => kernel_rfl) (by as_aux_lemma => kernel_rfl) (by as_aux_lemma => kernel_rfl) hsh (by decide) (by intro _ _ _ h; exact h) (by assumption) (Or.inl ⟨by rfl, ?hy⟩) ?_; (case hy => (intro W _; go_simp; (try with_reducible rfl))); clear hsh; intro hsh
                refine wpAnyC_take0 (i := 4) (k := 5) (v := ?_) (d := some 39) rfl (by rfl) (by as_aux_lemma => kernel_rfl) (by as_aux_lemma => kernel_rfl) (by as_aux_lemma => kernel_rfl) hsh (by decide) (by intro _ _ _ h; exact h) (by assumption) (Or.inl ⟨by rfl, ?hy⟩) ?_; (case hy => (intro W _; go_simp; (try with_reducible rfl))); clear hsh; intro hsh
                refine wpAnyC_tail (by as_aux_lemma => kernel_rfl) (by simp) (by as_aux_lemma => kernel_rfl) ?_; simp only [List.drop_succ_cons, List.drop_zero]; clear hsh
                go_wp2_with (first | (go_at_call 56; refine (CI.out _).mono ?_; rintro e w' ⟨rfl, rfl⟩))
                go_ret2
                exact ⟨by rw [E.out.1, E.out.2]; rfl, by first | exact HB.out | exact below_drewN HB.out _ | exact HB.out.drew⟩
              · rw [hdc, if_pos rfl] at CI
                have hdl := dgtV_lt (b := 10) (by decide) hdc
                obtain ⟨d, hd⟩ : ∃ d : Int, ((dgtV C : Nat) : Int) = d := ⟨_, rfl⟩
                rw [hd] at CI
                obtain ⟨m1, hm1⟩ : ∃ m1 : Int, a * 10 = m1 := ⟨_, rfl⟩
                obtain ⟨n1, hn1⟩ : ∃ n1 : Int, m1 + d = n1 := ⟨_, rfl⟩
                have d0 : 0 ≤ d := by omega
                have dn : decide (d < 0) = false := by simp; omega
                have q4 : IntKind.i64.wrap (a * 10) = m1 := by rw [← hm1]; exact IntWalk.i64_in _ (by omega)
                have q5 : IntKind.i64.wrap (m1 + d) = n1 := by rw [← hn1]; exact IntWalk.i64_in _ (by omega)
                have HN := hide (show n1 = ((numV 10 (s.data.toList.take (k + 1)) : Nat) : Int) ∧ ∀ c ∈ s.data.toList.take (k + 1), dgt 10 c = true from ⟨by rw [HT.out, numV_snoc, ← hn1, ← hm1, ← hd, HA.out.1]; simp, fun c hc => by
                  rw [HT.out] at hc
                  rcases List.mem_append.1 hc with hc | hc
                  · exact HA.out.2 c hc
                  · obtain rfl := List.mem_singleton.1 hc; exact hdc⟩)
                clear hd hm1 hn1 hdl
                go_wp2_with (fail)
                have HS : True := trivial
                refine wp_region_chain (fun _ => True) 5 (by as_aux_lemma => kernel_rfl) (N := 7) (by as_aux_lemma => kernel_rfl) ?_; intro hsh
                have HS : True := trivial
                refine wpAnyC_take0 (i := 0) (k := 5) (v := ?_) (d := some 35) rfl (by rfl) (by as_aux_lemma => kernel_rfl) (by as_aux_lemma => kernel_rfl) (by as_aux_lemma => kernel_rfl) hsh (by decide) (by intro _ _ _ h; exact h) (by assumption) (Or.inl ⟨by rfl, ?hy⟩) ?_; (case hy => (intro W _; go_simp; (try with_reducible rfl))); clear hsh; intro hsh
                refine wpAnyC_take0 (i := 1) (k := 5) (v := ?_) (d := some 36) rfl (by rfl) (by as_aux_lemma => kernel_rfl) (by as_aux_lemma => kernel_rfl) (by as_aux_lemma => kernel_rfl) hsh (by decide) (by intro _ _ _ h; exact h) (by assumption) (Or.inl ⟨by rfl, ?hy⟩) ?_; (case hy => (intro W _; go_simp; (try with_reducible rfl))); clear hsh; intro hsh
                refine wpAnyC_take0 (i := 2) (k := 5) (v := ?_) (d := some 37) rfl (by rfl) (by as_aux_lemma => kernel_rfl) (by as_aux_lemma => kernel_rfl) (by as_aux_lemma => kernel_rfl) hsh (by decide) (by intro _ _ _ h; exact h) (by assumption) (Or.inl ⟨by rfl, ?hy⟩) ?_; (case hy => (intro W _; go_simp; (try with_reducible rfl))); clear hsh; intro hsh
                refine wpAnyC_take0 (i := 3) (k := 5) (v := ?_) (d := some 38) rfl (by rfl) (by as_aux_lemma => kernel_rfl) (by as_aux_lemma => kernel_rfl) (by as_aux_lemma => kernel_rfl) hsh (by decide) (by intro _ _ _ h; exact h) (by assumption) (Or.inl ⟨by rfl, ?hy⟩) ?_; (case hy => (intro W _; go_simp; (try with_reducible rfl))); clear hsh; intro hsh
                refine wpAnyC_take0 (i := 4) (k := 5) (v := ?_) (d := some 39) rfl (by rfl) (by as_aux_lemma => kernel_rfl) (by as_aux_lemma => kernel_rfl) (by as_aux_lemma => kernel_rfl) hsh (by decide) (by intro _ _ _ h; exact h) (by assumption) (Or.inl ⟨by rfl, ?hy⟩) ?_; (case hy => (intro W _; go_simp; (try with_reducible rfl))); clear hsh; intro hsh
                refine wpAnyC_tail (by as_aux_lemma => kernel_rfl) (by simp) (by as_aux_lemma => kernel_rfl) ?_; simp only [List.drop_succ_cons, List.drop_zero]; clear hsh
                go_wp2_with (first | (go_at_call 56; refine (CI.out _).mono ?_; rintro e w' ⟨rfl, rfl⟩))
                go_roundw
                case rel => exact ⟨k + 1, n1, by omega, by go_num, rfl, HN, by first | exact HB.out | exact below_drewN HB.out _ | exact HB.out.drew⟩
                case measure => simp [intOf]; omega
            · obtain rfl : k = s.size := by omega
              have hfull : s.data.toList.take s.size = s.data.toList := List.take_of_length_le (by rw [str_len']; exact Nat.le_refl _)
              have hA1 := HA.out.1
              have hA2 := HA.out.2
              rw [hfull] at hA1 hA2
              have E := hide (numR_ok (b := 10) (m := m) hno.out (List.all_eq_true.2 hA2))
              have HA1 := hide hA1
              clear hA1 hA2 hfull
              go_wp2_with (fail)
              go_ret2
              exact ⟨by rw [E.out.1, E.out.2, ← HA1.out]; rfl, HB.out⟩
        · have h3' : ¬ (1 : Int) < (s.size : Int) := by omega
          have h3d : decide ((1 : Int) < (s.size : Int)) = false := by simp; omega
          clear h2 hget
          go_enter Tryz.func32, Tryz.ntmps32
          go_wp2_with (first | go_quiet (fail))
          go_loopw [32, 8] (fun vi vn wr => ∃ (k : Nat) (a : Int), k ≤ s.size ∧ vi = .int .i64 k ∧ vn = .int .i64 a ∧ Hid (a = ((numV 10 (s.data.toList.take k) : Nat) : Int) ∧ ∀ c ∈ s.data.toList.take k, dgt 10 c = true) ∧ Below w.heap.size w wr) (fun vi _ _ => s.size - (intOf vi).toNat)
          case atStart => exact ⟨0, 0, Nat.zero_le _, rfl, rfl, hide ⟨rfl, fun c hc => by cases hc⟩, by first | exact Below.refl _ _ | exact below_drewN (Below.refl _ _) _⟩
          case round =>
            obtain ⟨k, a, hk, rfl, rfl, HA, hb⟩ := hrel
            have HB := hide hb
            clear hb
            have ha : 0 ≤ a ∧ a < 281474976710656 := by
              have h := numV_12 (b := 10) (by decide) (l := s.data.toList.take k) (k := k) (by rw [List.length_take, str_len']; omega) (by rw [List.length_take, str_len']; omega) HA.out.2
              rw [List.take_take, Nat.min_self] at h
              have := HA.out.1
              omega
            obtain ⟨a0, a1⟩ := ha
            by_cases hlt : k < s.size
            · obtain ⟨C, hC⟩ : ∃ C, s[k] = C := ⟨_, rfl⟩
              have HT := hide (show s.data.toList.take (k + 1) = s.data.toList.take k ++ [C] by rw [take_snoc s k hlt, hC])
              have hlt' : (k : Int) < (s.size : Int) := by omega
              have CI := hide (fun W => Tryz.strings_IndexByte (dg16.extract 0 10) (C.toNat : Int) W)
              rw [dgI_of 10 (by decide) C] at CI
              unfold dg16 at CI
              cases hdc : dgt 10 C
              · have HF := hide (show s.data.toList.all (dgt 10) = false from all_take_false s _ k hlt (by rw [hC]; exact hdc))
                rw [hdc, if_neg (by decide)] at CI
                obtain ⟨mz, hmz⟩ : ∃ mz : Int, -1 = mz := ⟨_, rfl⟩
                rw [hmz] at CI
                have hneg : mz < 0 := by omega
                have E := hide (numR_bad (b := 10) (m := m) hno.out HF.out)
                clear hmz
                go_wp2_with (fail)
                have HS : True := trivial
                refine wp_region_chain (fun _ => True) 5 (by as_aux_lemma => kernel_rfl) (N := 7) (by as_aux_lemma => kernel_rfl) ?_; intro hsh
                have HS : True := trivial
                refine wpAnyC_take0 (i := 0) (k := 5) (v := ?_) (d := some 35) rfl (by rfl) (by as_aux_lemma => kernel_rfl) (by as_aux_lemma => kernel_rfl) (by as_aux_lemma => kernel_rfl) hsh (by decide) (by intro _ _ _ h; exact h) (by assumption) (Or.inl ⟨by rfl, ?hy⟩) ?_; (case hy => (intro W _; go_simp; (try with_reducible rfl))); clear hsh; intro hsh
                refine wpAnyC_take0 (i := 1) (k := 5) (v := ?_) (d := some 36) rfl (by rfl) (by as_aux_lemma => kernel_rfl) (by as_aux_lemma => kernel_rfl) (by as_aux_lemma => kernel_rfl) hsh (by decide) (by intro _ _ _ h; exact h) (by assumption) (Or.inl ⟨by rfl, ?hy⟩) ?_; (case hy => (intro W _; go_simp; (try with_reducible rfl))); clear hsh; intro hsh
                refine wpAnyC_take0 (i := 2) (k := 5) (v := ?_) (d := some 37) rfl (by rfl) (by as_aux_lemma => kernel_rfl) (by as_aux_lemma => kernel_rfl) (by as_aux_lemma => kernel_rfl) hsh (by decide) (by intro _ _ _ h; exact h) (by assumption) (Or.inl ⟨by rfl, ?hy⟩) ?_; (case hy => (intro W _; go_simp; (try with_reducible rfl))); clear hsh; intro hsh
                refine wpAnyC_take0 (i := 3) (k := 5) (v := ?_) (d := some 38) rfl (by rfl) (by as_aux_lemma => kernel_rfl) (by as_aux_lemma => kernel_rfl) (by as_aux_lemma => kernel_rfl) hsh (by decide) (by intro _ _ _ h; exact h) (by assumption) (Or.inl ⟨by rfl, ?hy⟩) ?_; (case hy => (intro W _; go_simp; (try with_reducible rfl))); clear hsh; intro hsh
                refine wpAnyC_take0 (i := 4) (k := 5) (v := ?_) (d := some 39) rfl (by rfl) (by as_aux_lemma => kernel_rfl) (by as_aux_lemma => kernel_rfl) (by as_aux_lemma => kernel_rfl) hsh (by decide) (by intro _ _ _ h; exact h) (by assumption) (Or.inl ⟨by rfl, ?hy⟩) ?_; (case hy => (intro W _; go_simp; (try with_reducible rfl))); clear hsh; intro hsh
                refine wpAnyC_tail (by as_aux_lemma => kernel_rfl) (by simp) (by as_aux_lemma => kernel_rfl) ?_; simp only [List.drop_succ_cons, List.drop_zero]; clear hsh
                go_wp2_with (first | (go_at_call 56; refine (CI.out _).mono ?_; rintro e w' ⟨rfl, rfl⟩))
                go_ret2
                exact ⟨by rw [E.out.1, E.out.2]; rfl, by first | exact HB.out | exact below_drewN HB.out _ | exact HB.out.drew⟩
              · rw [hdc, if_pos rfl] at CI
                have hdl := dgtV_lt (b := 10) (by decide) hdc
                obtain ⟨d, hd⟩ : ∃ d : Int, ((dgtV C : Nat) : Int) = d := ⟨_, rfl⟩
                rw [hd] at CI
                obtain ⟨m1, hm1⟩ : ∃ m1 : Int, a * 10 = m1 := ⟨_, rfl⟩
                obtain ⟨n1, hn1⟩ : ∃ n1 : Int, m1 + d = n1 := ⟨_, rfl⟩
                have d0 : 0 ≤ d := by omega
                have dn : decide (d < 0) = false := by simp; omega
                have q4 : IntKind.i64.wrap (a * 10) = m1 := by rw [← hm1]; exact IntWalk.i64_in _ (by omega)
                have q5 : IntKind.i64.wrap (m1 + d) = n1 := by rw [← hn1]; exact IntWalk.i64_in _ (by omega)
                have HN := hide (show n1 = ((numV 10 (s.data.toList.take (k + 1)) : Nat) : Int) ∧ ∀ c ∈ s.data.toList.take (k + 1), dgt 10 c = true from ⟨by rw [HT.out, numV_snoc, ← hn1, ← hm1, ← hd, HA.out.1]; simp, fun c hc => by
                  rw [HT.out] at hc
                  rcases List.mem_append.1 hc with hc | hc
                  · exact HA.out.2 c hc
                  · obtain rfl := List.mem_singleton.1 hc; exact hdc⟩)
                clear hd hm1 hn1 hdl
                go_wp2_with (fail)
                have HS : True := trivial
                refine wp_region_chain (fun _ => True) 5 (by as_aux_lemma => kernel_rfl) (N := 7) (by as_aux_lemma => kernel_rfl) ?_; intro hsh
                have HS : True := trivial
                refine wpAnyC_take0 (i := 0) (k := 5) (v := ?_) (d := some 35) rfl (by rfl) (by as_aux_lemma => kernel_rfl) (by as_aux_lemma => kernel_rfl) (by as_aux_lemma => kernel_rfl) hsh (by decide) (by intro _ _ _ h; exact h) (by assumption) (Or.inl ⟨by rfl, ?hy⟩) ?_; (case hy => (intro W _; go_simp; (try with_reducible rfl))); clear hsh; intro hsh
                refine wpAnyC_take0 (i := 1) (k := 5) (v := ?_) (d := some 36) rfl (by rfl) (by as_aux_lemma => kernel_rfl) (by as_aux_lemma => kernel_rfl) (by as_aux_lemma => kernel_rfl) hsh (by decide) (by intro _ _ _ h; exact h) (by assumption) (Or.inl ⟨by rfl, ?hy⟩) ?_; (case hy => (intro W _; go_simp; (try with_reducible rfl))); clear hsh; intro hsh
                refine wpAnyC_take0 (i := 2) (k := 5) (v := ?_) (d := some 37) rfl (by rfl) (by as_aux_lemma => kernel_rfl) (by as_aux_lemma => kernel_rfl) (by as_aux_lemma => kernel_rfl) hsh (by decide) (by intro _ _ _ h; exact h) (by assumption) (Or.inl ⟨by rfl, ?hy⟩) ?_; (case hy => (intro W _; go_simp; (try with_reducible rfl))); clear hsh; intro hsh
                refine wpAnyC_take0 (i := 3) (k := 5) (v := ?_) (d := some 38) rfl (by rfl) (by as_aux_lemma => kernel_rfl) (by as_aux_lemma => kernel_rfl) (by as_aux_lemma => kernel_rfl) hsh (by decide) (by intro _ _ _ h; exact h) (by assumption) (Or.inl ⟨by rfl, ?hy⟩) ?_; (case hy => (intro W _; go_simp; (try with_reducible rfl))); clear hsh; intro hsh
                refine wpAnyC_take0 (i := 4) (k := 5) (v := ?_) (d := some 39) rfl (by rfl) (by as_aux_lemma => kernel_rfl) (by as_aux_lemma => kernel_rfl) (by as_aux_lemma => kernel_rfl) hsh (by decide) (by intro _ _ _ h; exact h) (by assumption) (Or.inl ⟨by rfl, ?hy⟩) ?_; (case hy => (intro W _; go_simp; (try with_reducible rfl))); clear hsh; intro hsh
                refine wpAnyC_tail (by as_aux_lemma => kernel_rfl) (by simp) (by as_aux_lemma => kernel_rfl) ?_; simp only [List.drop_succ_cons, List.drop_zero]; clear hsh
                go_wp2_with (first | (go_at_call 56; refine (CI.out _).mono ?_; rintro e w' ⟨rfl, rfl⟩))
                go_roundw
                case rel => exact ⟨k + 1, n1, by omega, by go_num, rfl, HN, by first | exact HB.out | exact below_drewN HB.out _ | exact HB.out.drew⟩
                case measure => simp [intOf]; omega
            · obtain rfl : k = s.size := by omega
              have hfull : s.data.toList.take s.size = s.data.toList := List.take_of_length_le (by rw [str_len']; exact Nat.le_refl _)
              have hA1 := HA.out.1
              have hA2 := HA.out.2
              rw [hfull] at hA1 hA2
              have E := hide (numR_ok (b := 10) (m := m) hno.out (List.all_eq_true.2 hA2))
              have HA1 := hide hA1
              clear hA1 hA2 hfull
              go_wp2_with (fail)
              go_ret2
              exact ⟨by rw [E.out.1, E.out.2, ← HA1.out]; rfl, HB.out⟩
set_option maxRecDepth 100000 in
set_option maxHeartbeats 16000000 in
theorem rnumber_16 (s : ByteArray) (m : Nat) (w : World) (hm : m ≤ 12) (hs : s.size ≤ 4611686018427387904) :
    Calls Tryz.prog 32 #[.string s, .int .i64 16, .int .i64 m] w fun e w' => e = .returned (.tuple #[.int .i64 (numO 16 m s), .bool (numK 16 m s)]) ∧ Below w.heap.size w w' := by
  by_cases h0 : s.size = 0
  · have E := hide (numR_no (b := 16) (m := m) (.inl h0))
    have h0' : (s.size : Int) < 1 := by omega
    have h0n : s.size < 1 := by omega
    rw [E.out.1, E.out.2]
    go_enter Tryz.func32, Tryz.ntmps32
    go_wp2_with (first | go_quiet (fail))
    go_ret2
    exact ⟨rfl, by first | exact Below.refl _ _ | exact below_drewN (Below.refl _ _) _⟩
  · have hp : 1 ≤ s.size := by omega
    have h0' : ¬ (s.size : Int) < 1 := by omega
    have h0d : decide ((s.size : Int) < 1) = false := by simp; omega
    by_cases h1 : m < s.size
    · have E := hide (numR_no (b := 16) (.inr (.inl h1)))
      have h1' : (m : Int) < (s.size : Int) := by omega
      rw [E.out.1, E.out.2]
      go_enter Tryz.func32, Tryz.ntmps32
      go_wp2_with (first | go_quiet (fail))
      go_ret2
      exact ⟨rfl, by first | exact Below.refl _ _ | exact below_drewN (Below.refl _ _) _⟩
    · have h1' : ¬ (m : Int) < (s.size : Int) := by omega
      have h1d : decide ((m : Int) < (s.size : Int)) = false := by simp; omega
      have h1n : decide (m < s.size) = false := by simp; omega
      have hget : s.data.toList[0]? = some s[0] := by rw [List.getElem?_eq_getElem (by rw [Array.length_toList]; exact hp)]; rfl
      by_cases h2 : 1 < s.size ∧ s.data.toList[0]? = some 48
      · have E := hide (numR_no (b := 16) (m := m) (.inr (.inr h2)))
        obtain ⟨h3, h4⟩ := h2
        rw [hget] at h4
        have h48 : s[0] = 48 := Option.some.inj h4
        have h4' : (s[0].toNat : Int) = 48 := by rw [h48]; rfl
        have h4n : s[0].toNat = 48 := by rw [h48]; rfl
        have h3' : (1 : Int) < (s.size : Int) := by omega
        rw [E.out.1, E.out.2]
        clear h4 h48 hget
        go_enter Tryz.func32, Tryz.ntmps32
        go_wp2_with (first | go_quiet (fail))
        go_ret2
        exact ⟨rfl, by first | exact Below.refl _ _ | exact below_drewN (Below.refl _ _) _⟩
      · have hno := hide (show ¬ (s.size = 0 ∨ m < s.size ∨ (1 < s.size ∧ s.data.toList[0]? = some 48)) by rintro (h | h | h); exact h0 h; exact h1 h; exact h2 h)
        have h12 : s.size ≤ 12 := by omega
        by_cases h3 : 1 < s.size
        · have h3' : (1 : Int) < (s.size : Int) := by omega
          have h48 : ¬ s[0].toNat = 48 := fun e => h2 ⟨h3, by rw [hget]; congr 1; exact UInt8.toNat_inj.1 e⟩
          have h4' : ¬ (s[0].toNat : Int) = 48 := by omega
          have h4b : ((s[0].toNat : Int) == 48) = false := by rw [beq_eq_false_iff_ne]; omega
          clear h2 hget
          go_enter Tryz.func32, Tryz.ntmps32
          go_wp2_with (first | go_quiet (fail))
          go_loopw [32, 8] (fun vi vn wr => ∃ (k : Nat) (a : Int), k ≤ s.size ∧ vi = .int .i64 k ∧ vn = .int .i64 a ∧ Hid (a = ((numV 16 (s.data.toList.take k) : Nat) : Int) ∧ ∀ c ∈ s.data.toList.take k, dgt 16 c = true) ∧ Below w.heap.size w wr) (fun vi _ _ => s.size - (intOf vi).toNat)
          case atStart => exact ⟨0, 0, Nat.zero_le _, rfl, rfl, hide ⟨rfl, fun c hc => by cases hc⟩, by first | exact Below.refl _ _ | exact below_drewN (Below.refl _ _) _⟩
          case round =>
            obtain ⟨k, a, hk, rfl, rfl, HA, hb⟩ := hrel
            have HB := hide hb
            clear hb
            have ha : 0 ≤ a ∧ a < 281474976710656 := by
              have h := numV_12 (b := 16) (by decide) (l := s.data.toList.take k) (k := k) (by rw [List.length_take, str_len']; omega) (by rw [List.length_take, str_len']; omega) HA.out.2
              rw [List.take_take, Nat.min_self] at h
              have := HA.out.1
              omega
            obtain ⟨a0, a1⟩ := ha
            by_cases hlt : k < s.size
            · obtain ⟨C, hC⟩ : ∃ C, s[k] = C := ⟨_, rfl⟩
              have HT := hide (show s.data.toList.take (k + 1) = s.data.toList.take k ++ [C] by rw [take_snoc s k hlt, hC])
              have hlt' : (k : Int) < (s.size : Int) := by omega
              have CI := hide (fun W => Tryz.strings_IndexByte (dg16.extract 0 16) (C.toNat : Int) W)
              rw [dgI_of 16 (by decide) C] at CI
              unfold dg16 at CI
              cases hdc : dgt 16 C
              · have HF := hide (show s.data.toList.all (dgt 16) = false from all_take_false s _ k hlt (by rw [hC]; exact hdc))
                rw [hdc, if_neg (by decide)] at CI
                obtain ⟨mz, hmz⟩ : ∃ mz : Int, -1 = mz := ⟨_, rfl⟩
                rw [hmz] at CI
                have hneg : mz < 0 := by omega
                have E := hide (numR_bad (b := 16) (m := m) hno.out HF.out)
                clear hmz
                go_wp2_with (fail)
                have HS : True := trivial
                refine wp_region_chain (fun _ => True) 5 (by as_aux_lemma => kernel_rfl) (N := 7) (by as_aux_lemma => kernel_rfl) ?_; intro hsh
                have HS : True := trivial
                refine wpAnyC_take0 (i := 0) (k := 5) (v := ?_) (d := some 35) rfl (by rfl) (by as_aux_lemma => kernel_rfl) (by as_aux_lemma => kernel_rfl) (by as_aux_lemma => kernel_rfl) hsh (by decide) (by intro _ _ _ h; exact h) (by assumption) (Or.inl ⟨by rfl, ?hy⟩) ?_; (case hy => (intro W _; go_simp; (try with_reducible rfl))); clear hsh; intro hsh
                refine wpAnyC_take0 (i := 1) (k := 5) (v := ?_) (d := some 36) rfl (by rfl) (by as_aux_lemma => kernel_rfl) (by as_aux_lemma => kernel_rfl) (by as_aux_lemma => kernel_rfl) hsh (by decide) (by intro _ _ _ h; exact h) (by assumption) (Or.inl ⟨by rfl, ?hy⟩) ?_; (case hy => (intro W _; go_simp; (try with_reducible rfl))); clear hsh; intro hsh
                refine wpAnyC_take0 (i := 2) (k := 5) (v := ?_) (d := some 37) rfl (by rfl) (by as_aux_lemma => kernel_rfl) (by as_aux_lemma => kernel_rfl) (by as_aux_lemma => kernel_rfl) hsh (by decide) (by intro _ _ _ h; exact h) (by assumption) (Or.inl ⟨by rfl, ?hy⟩) ?_; (case hy => (intro W _; go_simp; (try with_reducible rfl))); clear hsh; intro hsh
                refine wpAnyC_take0 (i := 3) (k := 5) (v := ?_) (d := some 38) rfl (by rfl) (by as_aux_lemma => kernel_rfl) (by as_aux_lemma => kernel_rfl) (by as_aux_lemma => kernel_rfl) hsh (by decide) (by intro _ _ _ h; exact h) (by assumption) (Or.inl ⟨by rfl, ?hy⟩) ?_; (case hy => (intro W _; go_simp; (try with_reducible rfl))); clear hsh; intro hsh
                refine wpAnyC_take0 (i := 4) (k := 5) (v := ?_) (d := some 39) rfl (by rfl) (by as_aux_lemma => kernel_rfl) (by as_aux_lemma => kernel_rfl) (by as_aux_lemma => kernel_rfl) hsh (by decide) (by intro _ _ _ h; exact h) (by assumption) (Or.inl ⟨by rfl, ?hy⟩) ?_; (case hy => (intro W _; go_simp; (try with_reducible rfl))); clear hsh; intro hsh
                refine wpAnyC_tail (by as_aux_lemma => kernel_rfl) (by simp) (by as_aux_lemma => kernel_rfl) ?_; simp only [List.drop_succ_cons, List.drop_zero]; clear hsh
                go_wp2_with (first | (go_at_call 56; refine (CI.out _).mono ?_; rintro e w' ⟨rfl, rfl⟩))
                go_ret2
                exact ⟨by rw [E.out.1, E.out.2]; rfl, by first | exact HB.out | exact below_drewN HB.out _ | exact HB.out.drew⟩
              · rw [hdc, if_pos rfl] at CI
                have hdl := dgtV_lt (b := 16) (by decide) hdc
                obtain ⟨d, hd⟩ : ∃ d : Int, ((dgtV C : Nat) : Int) = d := ⟨_, rfl⟩
                rw [hd] at CI
                obtain ⟨m1, hm1⟩ : ∃ m1 : Int, a * 16 = m1 := ⟨_, rfl⟩
                obtain ⟨n1, hn1⟩ : ∃ n1 : Int, m1 + d = n1 := ⟨_, rfl⟩
                have d0 : 0 ≤ d := by omega
                have dn : decide (d < 0) = false := by simp; omega
                have q4 : IntKind.i64.wrap (a * 16) = m1 := by rw [← hm1]; exact IntWalk.i64_in _ (by omega)
                have q5 : IntKind.i64.wrap (m1 + d) = n1 := by rw [← hn1]; exact IntWalk.i64_in _ (by omega)
                have HN := hide (show n1 = ((numV 16 (s.data.toList.take (k + 1)) : Nat) : Int) ∧ ∀ c ∈ s.data.toList.take (k + 1), dgt 16 c = true from ⟨by rw [HT.out, numV_snoc, ← hn1, ← hm1, ← hd, HA.out.1]; simp, fun c hc => by
                  rw [HT.out] at hc
                  rcases List.mem_append.1 hc with hc | hc
                  · exact HA.out.2 c hc
                  · obtain rfl := List.mem_singleton.1 hc; exact hdc⟩)
                clear hd hm1 hn1 hdl
                go_wp2_with (fail)
                have HS : True := trivial
                refine wp_region_chain (fun _ => True) 5 (by as_aux_lemma => kernel_rfl) (N := 7) (by as_aux_lemma => kernel_rfl) ?_; intro hsh
                have HS : True := trivial
                refine wpAnyC_take0 (i := 0) (k := 5) (v := ?_) (d := some 35) rfl (by rfl) (by as_aux_lemma => kernel_rfl) (by as_aux_lemma => kernel_rfl) (by as_aux_lemma => kernel_rfl) hsh (by decide) (by intro _ _ _ h; exact h) (by assumption) (Or.inl ⟨by rfl, ?hy⟩) ?_; (case hy => (intro W _; go_simp; (try with_reducible rfl))); clear hsh; intro hsh
                refine wpAnyC_take0 (i := 1) (k := 5) (v := ?_) (d := some 36) rfl (by rfl) (by as_aux_lemma => kernel_rfl) (by as_aux_lemma => kernel_rfl) (by as_aux_lemma => kernel_rfl) hsh (by decide) (by intro _ _ _ h; exact h) (by assumption) (Or.inl ⟨by rfl, ?hy⟩) ?_; (case hy => (intro W _; go_simp; (try with_reducible rfl))); clear hsh; intro hsh
                refine wpAnyC_take0 (i := 2) (k := 5) (v := ?_) (d := some 37) rfl (by rfl) (by as_aux_lemma => kernel_rfl) (by as_aux_lemma => kernel_rfl) (by as_aux_lemma => kernel_rfl) hsh (by decide) (by intro _ _ _ h; exact h) (by assumption) (Or.inl ⟨by rfl, ?hy⟩) ?_; (case hy => (intro W _; go_simp; (try with_reducible rfl))); clear hsh; intro hsh
                refine wpAnyC_take0 (i := 3) (k := 5) (v := ?_) (d := some 38) rfl (by rfl) (by as_aux_lemma => kernel_rfl) (by as_aux_lemma => kernel_rfl) (by as_aux_lemma => kernel_rfl) hsh (by decide) (by intro _ _ _ h; exact h) (by assumption) (Or.inl ⟨by rfl, ?hy⟩) ?_; (case hy => (intro W _; go_simp; (try with_reducible rfl))); clear hsh; intro hsh
                refine wpAnyC_take0 (i := 4) (k := 5) (v := ?_) (d := some 39) rfl (by rfl) (by as_aux_lemma => kernel_rfl) (by as_aux_lemma => kernel_rfl) (by as_aux_lemma => kernel_rfl) hsh (by decide) (by intro _ _ _ h; exact h) (by assumption) (Or.inl ⟨by rfl, ?hy⟩) ?_; (case hy => (intro W _; go_simp; (try with_reducible rfl))); clear hsh; intro hsh
                refine wpAnyC_tail (by as_aux_lemma => kernel_rfl) (by simp) (by as_aux_lemma => kernel_rfl) ?_; simp only [List.drop_succ_cons, List.drop_zero]; clear hsh
                go_wp2_with (first | (go_at_call 56; refine (CI.out _).mono ?_; rintro e w' ⟨rfl, rfl⟩))
                go_roundw
                case rel => exact ⟨k + 1, n1, by omega, by go_num, rfl, HN, by first | exact HB.out | exact below_drewN HB.out _ | exact HB.out.drew⟩
                case measure => simp [intOf]; omega
            · obtain rfl : k = s.size := by omega
              have hfull : s.data.toList.take s.size = s.data.toList := List.take_of_length_le (by rw [str_len']; exact Nat.le_refl _)
              have hA1 := HA.out.1
              have hA2 := HA.out.2
              rw [hfull] at hA1 hA2
              have E := hide (numR_ok (b := 16) (m := m) hno.out (List.all_eq_true.2 hA2))
              have HA1 := hide hA1
              clear hA1 hA2 hfull
              go_wp2_with (fail)
              go_ret2
              exact ⟨by rw [E.out.1, E.out.2, ← HA1.out]; rfl, HB.out⟩
        · have h3' : ¬ (1 : Int) < (s.size : Int) := by omega
          have h3d : decide ((1 : Int) < (s.size : Int)) = false := by simp; omega
          clear h2 hget
          go_enter Tryz.func32, Tryz.ntmps32
          go_wp2_with (first | go_quiet (fail))
          go_loopw [32, 8] (fun vi vn wr => ∃ (k : Nat) (a : Int), k ≤ s.size ∧ vi = .int .i64 k ∧ vn = .int .i64 a ∧ Hid (a = ((numV 16 (s.data.toList.take k) : Nat) : Int) ∧ ∀ c ∈ s.data.toList.take k, dgt 16 c = true) ∧ Below w.heap.size w wr) (fun vi _ _ => s.size - (intOf vi).toNat)
          case atStart => exact ⟨0, 0, Nat.zero_le _, rfl, rfl, hide ⟨rfl, fun c hc => by cases hc⟩, by first | exact Below.refl _ _ | exact below_drewN (Below.refl _ _) _⟩
          case round =>
            obtain ⟨k, a, hk, rfl, rfl, HA, hb⟩ := hrel
            have HB := hide hb
            clear hb
            have ha : 0 ≤ a ∧ a < 281474976710656 := by
              have h := numV_12 (b := 16) (by decide) (l := s.data.toList.take k) (k := k) (by rw [List.length_take, str_len']; omega) (by rw [List.length_take, str_len']; omega) HA.out.2
              rw [List.take_take, Nat.min_self] at h
              have := HA.out.1
              omega
            obtain ⟨a0, a1⟩ := ha
            by_cases hlt : k < s.size
            · obtain ⟨C, hC⟩ : ∃ C, s[k] = C := ⟨_, rfl⟩
              have HT := hide (show s.data.toList.take (k + 1) = s.data.toList.take k ++ [C] by rw [take_snoc s k hlt, hC])
              have hlt' : (k : Int) < (s.size : Int) := by omega
              have CI := hide (fun W => Tryz.strings_IndexByte (dg16.extract 0 16) (C.toNat : Int) W)
              rw [dgI_of 16 (by decide) C] at CI
              unfold dg16 at CI
              cases hdc : dgt 16 C
              · have HF := hide (show s.data.toList.all (dgt 16) = false from all_take_false s _ k hlt (by rw [hC]; exact hdc))
                rw [hdc, if_neg (by decide)] at CI
                obtain ⟨mz, hmz⟩ : ∃ mz : Int, -1 = mz := ⟨_, rfl⟩
                rw [hmz] at CI
                have hneg : mz < 0 := by omega
                have E := hide (numR_bad (b := 16) (m := m) hno.out HF.out)
                clear hmz
                go_wp2_with (fail)
                have HS : True := trivial
                refine wp_region_chain (fun _ => True) 5 (by as_aux_lemma => kernel_rfl) (N := 7) (by as_aux_lemma => kernel_rfl) ?_; intro hsh
                have HS : True := trivial
                refine wpAnyC_take0 (i := 0) (k := 5) (v := ?_) (d := some 35) rfl (by rfl) (by as_aux_lemma => kernel_rfl) (by as_aux_lemma => kernel_rfl) (by as_aux_lemma => kernel_rfl) hsh (by decide) (by intro _ _ _ h; exact h) (by assumption) (Or.inl ⟨by rfl, ?hy⟩) ?_; (case hy => (intro W _; go_simp; (try with_reducible rfl))); clear hsh; intro hsh
                refine wpAnyC_take0 (i := 1) (k := 5) (v := ?_) (d := some 36) rfl (by rfl) (by as_aux_lemma => kernel_rfl) (by as_aux_lemma => kernel_rfl) (by as_aux_lemma => kernel_rfl) hsh (by decide) (by intro _ _ _ h; exact h) (by assumption) (Or.inl ⟨by rfl, ?hy⟩) ?_; (case hy => (intro W _; go_simp; (try with_reducible rfl))); clear hsh; intro hsh
                refine wpAnyC_take0 (i := 2) (k := 5) (v := ?_) (d := some 37) rfl (by rfl) (by as_aux_lemma => kernel_rfl) (by as_aux_lemma => kernel_rfl) (by as_aux_lemma => kernel_rfl) hsh (by decide) (by intro _ _ _ h; exact h) (by assumption) (Or.inl ⟨by rfl, ?hy⟩) ?_; (case hy => (intro W _; go_simp; (try with_reducible rfl))); clear hsh; intro hsh
                refine wpAnyC_take0 (i := 3) (k := 5) (v := ?_) (d := some 38) rfl (by rfl) (by as_aux_lemma => kernel_rfl) (by as_aux_lemma => kernel_rfl) (by as_aux_lemma => kernel_rfl) hsh (by decide) (by intro _ _ _ h; exact h) (by assumption) (Or.inl ⟨by rfl, ?hy⟩) ?_; (case hy => (intro W _; go_simp; (try with_reducible rfl))); clear hsh; intro hsh
                refine wpAnyC_take0 (i := 4) (k := 5) (v := ?_) (d := some 39) rfl (by rfl) (by as_aux_lemma => kernel_rfl) (by as_aux_lemma => kernel_rfl) (by as_aux_lemma => kernel_rfl) hsh (by decide) (by intro _ _ _ h; exact h) (by assumption) (Or.inl ⟨by rfl, ?hy⟩) ?_; (case hy => (intro W _; go_simp; (try with_reducible rfl))); clear hsh; intro hsh
                refine wpAnyC_tail (by as_aux_lemma => kernel_rfl) (by simp) (by as_aux_lemma => kernel_rfl) ?_; simp only [List.drop_succ_cons, List.drop_zero]; clear hsh
                go_wp2_with (first | (go_at_call 56; refine (CI.out _).mono ?_; rintro e w' ⟨rfl, rfl⟩))
                go_ret2
                exact ⟨by rw [E.out.1, E.out.2]; rfl, by first | exact HB.out | exact below_drewN HB.out _ | exact HB.out.drew⟩
              · rw [hdc, if_pos rfl] at CI
                have hdl := dgtV_lt (b := 16) (by decide) hdc
                obtain ⟨d, hd⟩ : ∃ d : Int, ((dgtV C : Nat) : Int) = d := ⟨_, rfl⟩
                rw [hd] at CI
                obtain ⟨m1, hm1⟩ : ∃ m1 : Int, a * 16 = m1 := ⟨_, rfl⟩
                obtain ⟨n1, hn1⟩ : ∃ n1 : Int, m1 + d = n1 := ⟨_, rfl⟩
                have d0 : 0 ≤ d := by omega
                have dn : decide (d < 0) = false := by simp; omega
                have q4 : IntKind.i64.wrap (a * 16) = m1 := by rw [← hm1]; exact IntWalk.i64_in _ (by omega)
                have q5 : IntKind.i64.wrap (m1 + d) = n1 := by rw [← hn1]; exact IntWalk.i64_in _ (by omega)
                have HN := hide (show n1 = ((numV 16 (s.data.toList.take (k + 1)) : Nat) : Int) ∧ ∀ c ∈ s.data.toList.take (k + 1), dgt 16 c = true from ⟨by rw [HT.out, numV_snoc, ← hn1, ← hm1, ← hd, HA.out.1]; simp, fun c hc => by
                  rw [HT.out] at hc
                  rcases List.mem_append.1 hc with hc | hc
                  · exact HA.out.2 c hc
                  · obtain rfl := List.mem_singleton.1 hc; exact hdc⟩)
                clear hd hm1 hn1 hdl
                go_wp2_with (fail)
                have HS : True := trivial
                refine wp_region_chain (fun _ => True) 5 (by as_aux_lemma => kernel_rfl) (N := 7) (by as_aux_lemma => kernel_rfl) ?_; intro hsh
                have HS : True := trivial
                refine wpAnyC_take0 (i := 0) (k := 5) (v := ?_) (d := some 35) rfl (by rfl) (by as_aux_lemma => kernel_rfl) (by as_aux_lemma => kernel_rfl) (by as_aux_lemma => kernel_rfl) hsh (by decide) (by intro _ _ _ h; exact h) (by assumption) (Or.inl ⟨by rfl, ?hy⟩) ?_; (case hy => (intro W _; go_simp; (try with_reducible rfl))); clear hsh; intro hsh
                refine wpAnyC_take0 (i := 1) (k := 5) (v := ?_) (d := some 36) rfl (by rfl) (by as_aux_lemma => kernel_rfl) (by as_aux_lemma => kernel_rfl) (by as_aux_lemma => kernel_rfl) hsh (by decide) (by intro _ _ _ h; exact h) (by assumption) (Or.inl ⟨by rfl, ?hy⟩) ?_; (case hy => (intro W _; go_simp; (try with_reducible rfl))); clear hsh; intro hsh
                refine wpAnyC_take0 (i := 2) (k := 5) (v := ?_) (d := some 37) rfl (by rfl) (by as_aux_lemma => kernel_rfl) (by as_aux_lemma => kernel_rfl) (by as_aux_lemma => kernel_rfl) hsh (by decide) (by intro _ _ _ h; exact h) (by assumption) (Or.inl ⟨by rfl, ?hy⟩) ?_; (case hy => (intro W _; go_simp; (try with_reducible rfl))); clear hsh; intro hsh
                refine wpAnyC_take0 (i := 3) (k := 5) (v := ?_) (d := some 38) rfl (by rfl) (by as_aux_lemma => kernel_rfl) (by as_aux_lemma => kernel_rfl) (by as_aux_lemma => kernel_rfl) hsh (by decide) (by intro _ _ _ h; exact h) (by assumption) (Or.inl ⟨by rfl, ?hy⟩) ?_; (case hy => (intro W _; go_simp; (try with_reducible rfl))); clear hsh; intro hsh
                refine wpAnyC_take0 (i := 4) (k := 5) (v := ?_) (d := some 39) rfl (by rfl) (by as_aux_lemma => kernel_rfl) (by as_aux_lemma => kernel_rfl) (by as_aux_lemma => kernel_rfl) hsh (by decide) (by intro _ _ _ h; exact h) (by assumption) (Or.inl ⟨by rfl, ?hy⟩) ?_; (case hy => (intro W _; go_simp; (try with_reducible rfl))); clear hsh; intro hsh
                refine wpAnyC_tail (by as_aux_lemma => kernel_rfl) (by simp) (by as_aux_lemma => kernel_rfl) ?_; simp only [List.drop_succ_cons, List.drop_zero]; clear hsh
                go_wp2_with (first | (go_at_call 56; refine (CI.out _).mono ?_; rintro e w' ⟨rfl, rfl⟩))
                go_roundw
                case rel => exact ⟨k + 1, n1, by omega, by go_num, rfl, HN, by first | exact HB.out | exact below_drewN HB.out _ | exact HB.out.drew⟩
                case measure => simp [intOf]; omega
            · obtain rfl : k = s.size := by omega
              have hfull : s.data.toList.take s.size = s.data.toList := List.take_of_length_le (by rw [str_len']; exact Nat.le_refl _)
              have hA1 := HA.out.1
              have hA2 := HA.out.2
              rw [hfull] at hA1 hA2
              have E := hide (numR_ok (b := 16) (m := m) hno.out (List.all_eq_true.2 hA2))
              have HA1 := hide hA1
              clear hA1 hA2 hfull
              go_wp2_with (fail)
              go_ret2
              exact ⟨by rw [E.out.1, E.out.2, ← HA1.out]; rfl, HB.out⟩
end Go.Proofs.YtkjpojaanocfjaaGreatDoor
