/- inqref1.number of decimal digits, at most four. -/
import Derived.Test.YtecancnojdifaaaDoorNmGC
import Derived.Test.YtecancnojdifaaaDoorNmText
import Derived.Test.YtecancnojdifaaaDoorShelf
import Derived.Test.YtecancnojdifaaaDoorNmGA
import Derived.WalkKit
import Derived.BigCall
import Derived.BigGuard
import Derived.BigQuiet
namespace Go.Proofs.YtecancnojdifaaaDoor
open Go.RowKit
set_option linter.unusedVariables false
set_option linter.unusedSimpArgs false
def dg16 : ByteArray := ⟨#[48, 49, 50, 51, 52, 53, 54, 55, 56, 57, 97, 98, 99, 100, 101, 102]⟩
theorem dg10_at : ∀ k, k < 256 → digB (UInt8.ofNat k) = true → Lib.indexByte (dg16.extract 0 10).data.toList (UInt8.ofNat k) = (k : Int) - 48 := by decide +kernel
theorem dg10_of {b : UInt8} (h : digB b = true) : Lib.indexByte (dg16.extract 0 10).data.toList ((b.toNat : Int)).toNat.toUInt8 = (b.toNat : Int) - 48 := by
  have h1 : (UInt8.ofNat b.toNat) = b := UInt8.ofNat_toNat
  have := dg10_at b.toNat (UInt8.toNat_lt b) (by rw [h1]; exact h)
  rw [h1] at this
  rw [← this]
  congr 1
theorem dgV_snoc (l : List UInt8) (b : UInt8) : dgV (l ++ [b]) = dgV l * 10 + (b.toNat - 48) := by unfold dgV; rw [List.foldl_append]; rfl
theorem dgV_lt (l : List UInt8) (hl : ∀ b ∈ l, digB b = true) (h4 : l.length ≤ 4) : dgV l < 10000 := by
  have h3 := dgV_fold l hl 0
  have h4 : 10 ^ l.length ≤ 10 ^ 4 := Nat.pow_le_pow_right (by decide) h4
  unfold dgV
  omega
set_option maxRecDepth 100000 in
set_option maxHeartbeats 4000000 in
theorem num_bad (s : ByteArray) (w : World) (hs : s.size ≤ 8000) (h : s.size < 1 ∨ 4 < s.size ∨ (1 < s.size ∧ s.data.toList[0]? = some 48)) :
    Calls Tryd.prog 100 #[.string s, .int .i64 10, .int .i64 4] w fun e w' => e = .returned (.tuple #[.int .i64 0, .bool false]) ∧ Below w.heap.size w w' := by
  by_cases h1 : s.size < 1
  · have h1' : (s.size : Int) < 1 := by omega
    clear h
    go_enter Tryd.func100, Tryd.ntmps100
    go_wp2_with (first | go_quiet (fail))
    go_ret2
    exact ⟨rfl, by first | exact Below.refl _ _ | exact below_drewN (Below.refl _ _) _⟩
  · have h1' : decide ((s.size : Int) < 1) = false := by simp; omega
    by_cases h4 : 4 < s.size
    · have h4' : (4 : Int) < (s.size : Int) := by omega
      clear h
      go_enter Tryd.func100, Tryd.ntmps100
      go_wp2_with (first | go_quiet (fail))
      go_ret2
      exact ⟨rfl, by first | exact Below.refl _ _ | exact below_drewN (Below.refl _ _) _⟩
    · have h4' : decide ((4 : Int) < (s.size : Int)) = false := by simp; omega
      have h5 : 1 < s.size ∧ s.data.toList[0]? = some 48 := by rcases h with h | h | h; (exact absurd h h1); (exact absurd h h4); exact h
      have h6 : s[0] = 48 := by have := str_get s 0 (by omega); rw [h5.2] at this; exact (Option.some.inj this).symm
      have h7 : (s[0].toNat : Int) = 48 := by rw [h6]; rfl
      have h8 : (1 : Int) < (s.size : Int) := by omega
      have h9 : 0 < s.size := by omega
      clear h h6
      go_enter Tryd.func100, Tryd.ntmps100
      go_wp2_with (first | go_quiet (fail))
      go_ret2
      exact ⟨rfl, by first | exact Below.refl _ _ | exact below_drewN (Below.refl _ _) _⟩
set_option maxRecDepth 100000 in
set_option maxHeartbeats 8000000 in
theorem num_ok (s : ByteArray) (w : World) (h0 : 1 ≤ s.size) (h4 : s.size ≤ 4) (hd : ∀ b ∈ s.data.toList, digB b = true) (hz : ¬ (1 < s.size ∧ s.data.toList[0]? = some 48)) :
    Calls Tryd.prog 100 #[.string s, .int .i64 10, .int .i64 4] w fun e w' => e = .returned (.tuple #[.int .i64 (dgV s.data.toList : Nat), .bool true]) ∧ Below w.heap.size w w' := by
  have h1' : decide ((s.size : Int) < 1) = false := by simp; omega
  have h4' : decide ((4 : Int) < (s.size : Int)) = false := by simp; omega
  have h9 : 0 < s.size := by omega
  have HD := hide hd
  have HX := hide (show (s.size : Int) ≤ 1 ∨ ((1 : Int) < (s.size : Int) ∧ ((s[0].toNat : Int) == 48) = false) by
    by_cases h : 1 < s.size
    · refine .inr ⟨by omega, ?_⟩
      rw [beq_eq_false_iff_ne]
      intro e
      refine hz ⟨h, ?_⟩
      rw [str_get s 0 h9]
      exact congrArg some (UInt8.toNat_inj.1 (by show s[0].toNat = 48; omega))
    · exact .inl (by omega))
  clear hd hz
  have REST := True
  go_enter Tryd.func100, Tryd.ntmps100
  rcases HX.out with hx | ⟨hx1, hx2⟩
  · have hx' : decide ((1 : Int) < (s.size : Int)) = false := by simp; omega
    go_wp2_with (first | go_quiet (fail))
    go_loopw [32, 8] (fun vi vn wr => ∃ k : Nat, k ≤ s.size ∧ vi = .int .i64 k ∧ vn = .int .i64 (dgV (s.data.toList.take k) : Nat) ∧ Below w.heap.size w wr) (fun vi _ _ => s.size - (intOf vi).toNat)
    case atStart => exact ⟨0, Nat.zero_le _, rfl, rfl, by first | exact Below.refl _ _ | exact below_drewN (Below.refl _ _) _⟩
    case round =>
      obtain ⟨k, hk, rfl, rfl, hb⟩ := hrel
      have HB := hide hb
      clear hb
      by_cases hlt : k < s.size
      · have hkd : digB s[k] = true := HD.out _ (List.mem_of_getElem? (str_get s k hlt))
        have hv : 48 ≤ s[k].toNat ∧ s[k].toNat ≤ 57 := by simpa [digB] using hkd
        have HI := hide (dg10_of hkd)
        have E := hide (show dgV (s.data.toList.take (k + 1)) = dgV (s.data.toList.take k) * 10 + (s[k].toNat - 48) by rw [take_succ_get (str_get s k hlt), dgV_snoc])
        have hlt2 := dgV_lt (s.data.toList.take k) (fun b hb => HD.out b (List.mem_of_mem_take hb)) (by rw [List.length_take]; omega)
        obtain ⟨v, hv2⟩ : ∃ v, dgV (s.data.toList.take k) = v := ⟨_, rfl⟩
        rw [hv2] at hlt2 E ⊢
        obtain ⟨b, hb⟩ : ∃ b, s[k] = b := ⟨_, rfl⟩
        rw [hb] at hv HI E
        have CI := hide (fun W => Tryd.strings_IndexByte (dg16.extract 0 10) (b.toNat : Int) W)
        rw [HI.out] at CI
        unfold dg16 at CI
        have hlt' : (k : Int) < (s.size : Int) := by omega
        have hn0 : decide ((b.toNat : Int) - 48 < 0) = false := by simp; omega
        clear hv2 hkd
        go_wp2_with (fail)
        have HS : True := trivial
        refine wp_region_chain (fun _ => True) 5 (by as_aux_lemma => kernel_rfl) (N := 7) (by as_aux_lemma => kernel_rfl) ?_; intro hsh
        have HS : True := trivial
        refine wpAnyC_take0 (i := 0) (k := 5) (v := ?_) (d := some 35) rfl (by rfl) (by as_aux_lemma => kernel_rfl) (by as_aux_lemma => kernel_rfl) (by as_aux_lemma => kernel_rfl) hsh (by decide) (by intro _ _ _ h; exact h) (by assumption) (Or.inl ⟨by rfl, ?hy⟩) ?_; (case hy => (intro W _; go_simp; (try with_reducible rfl))); clear hsh; intro hsh
        refine wpAnyC_take0 (i := 1) (k := 5) (v := ?_) (d := some 36) rfl (by rfl) (by as_aux_lemma => kernel_rfl) (by as_aux_lemma => kernel_rfl) (by as_aux_lemma => kernel_rfl) hsh (by decide) (by intro _ _ _ h; exact h) (by assumption) (Or.inl ⟨by rfl, ?hy⟩) ?_; (case hy => (intro W _; go_simp; (try with_reducible rfl))); clear hsh; intro hsh
        refine wpAnyC_take0 (i := 2) (k := 5) (v := ?_) (d := some 37) rfl (by rfl) (by as_aux_lemma => kernel_rfl) (by as_aux_lemma => kernel_rfl) (by as_aux_lemma => kernel_rfl) hsh (by decide) (by intro _ _ _ h; exact h) (by assumption) (Or.inl ⟨by rfl, ?hy⟩) ?_; (case hy => (intro W _; go_simp; (try with_reducible rfl))); clear hsh; intro hsh
        refine wpAnyC_take0 (i := 3) (k := 5) (v := ?_) (d := some 38) rfl (by rfl) (by as_aux_lemma => kernel_rfl) (by as_aux_lemma => kernel_rfl) (by as_aux_lemma => kernel_rfl) hsh (by decide) (by intro _ _ _ h; exact h) (by assumption) (Or.inl ⟨by rfl, ?hy⟩) ?_; (case hy => (intro W _; go_simp; (try with_reducible rfl))); clear hsh; intro hsh
        refine wpAnyC_take0 (i := 4) (k := 5) (v := ?_) (d := some 39) rfl (by rfl) (by as_aux_lemma => kernel_rfl) (by as_aux_lemma => kernel_rfl) (by as_aux_lemma => kernel_rfl) hsh (by decide) (by intro _ _ _ h; exact h) (by assumption) (Or.inl ⟨by rfl, ?hy⟩) ?_; (case hy => (intro W _; go_simp; (try with_reducible rfl))); clear hsh; intro hsh
        refine wpAnyC_tail (by as_aux_lemma => kernel_rfl) (by simp) (by as_aux_lemma => kernel_rfl) ?_; simp only [List.drop_succ_cons, List.drop_zero]; clear hsh
        go_wp2_with (first | (go_at_call 71; refine (CI.out _).mono ?_; rintro e w' ⟨rfl, rfl⟩))
        go_roundw
        case rel => exact ⟨k + 1, by omega, by go_num, by rw [E.out]; congr 1; omega, by first | exact HB.out | exact below_drewN HB.out _⟩
        case measure => simp [intOf]; omega
      · obtain rfl : k = s.size := by omega
        rw [List.take_of_length_le (by rw [str_len]; exact Nat.le_refl _)]
        go_wp2_with (fail)
        go_ret2
        exact ⟨rfl, HB.out⟩
  · have hx3 : ¬ (s[0].toNat : Int) = 48 := by simpa using hx2
    go_wp2_with (first | go_quiet (fail))
    go_loopw [32, 8] (fun vi vn wr => ∃ k : Nat, k ≤ s.size ∧ vi = .int .i64 k ∧ vn = .int .i64 (dgV (s.data.toList.take k) : Nat) ∧ Below w.heap.size w wr) (fun vi _ _ => s.size - (intOf vi).toNat)
    case atStart => exact ⟨0, Nat.zero_le _, rfl, rfl, by first | exact Below.refl _ _ | exact below_drewN (Below.refl _ _) _⟩
    case round =>
      obtain ⟨k, hk, rfl, rfl, hb⟩ := hrel
      have HB := hide hb
      clear hb
      by_cases hlt : k < s.size
      · have hkd : digB s[k] = true := HD.out _ (List.mem_of_getElem? (str_get s k hlt))
        have hv : 48 ≤ s[k].toNat ∧ s[k].toNat ≤ 57 := by simpa [digB] using hkd
        have HI := hide (dg10_of hkd)
        have E := hide (show dgV (s.data.toList.take (k + 1)) = dgV (s.data.toList.take k) * 10 + (s[k].toNat - 48) by rw [take_succ_get (str_get s k hlt), dgV_snoc])
        have hlt2 := dgV_lt (s.data.toList.take k) (fun b hb => HD.out b (List.mem_of_mem_take hb)) (by rw [List.length_take]; omega)
        obtain ⟨v, hv2⟩ : ∃ v, dgV (s.data.toList.take k) = v := ⟨_, rfl⟩
        rw [hv2] at hlt2 E ⊢
        obtain ⟨b, hb⟩ : ∃ b, s[k] = b := ⟨_, rfl⟩
        rw [hb] at hv HI E
        have CI := hide (fun W => Tryd.strings_IndexByte (dg16.extract 0 10) (b.toNat : Int) W)
        rw [HI.out] at CI
        unfold dg16 at CI
        have hlt' : (k : Int) < (s.size : Int) := by omega
        have hn0 : decide ((b.toNat : Int) - 48 < 0) = false := by simp; omega
        clear hv2 hkd
        go_wp2_with (fail)
        have HS : True := trivial
        refine wp_region_chain (fun _ => True) 5 (by as_aux_lemma => kernel_rfl) (N := 7) (by as_aux_lemma => kernel_rfl) ?_; intro hsh
        have HS : True := trivial
        refine wpAnyC_take0 (i := 0) (k := 5) (v := ?_) (d := some 35) rfl (by rfl) (by as_aux_lemma => kernel_rfl) (by as_aux_lemma => kernel_rfl) (by as_aux_lemma => kernel_rfl) hsh (by decide) (by intro _ _ _ h; exact h) (by assumption) (Or.inl ⟨by rfl, ?hy⟩) ?_; (case hy => (intro W _; go_simp; (try with_reducible rfl))); clear hsh; intro hsh
        refine wpAnyC_take0 (i := 1) (k := 5) (v := ?_) (d := some 36) rfl (by rfl) (by as_aux_lemma => kernel_rfl) (by as_aux_lemma => kernel_rfl) (by as_aux_lemma => kernel_rfl) hsh (by decide) (by intro _ _ _ h; exact h) (by assumption) (Or.inl ⟨by rfl, ?hy⟩) ?_; (case hy => (intro W _; go_simp; (try with_reducible rfl))); clear hsh; intro hsh
        refine wpAnyC_take0 (i := 2) (k := 5) (v := ?_) (d := some 37) rfl (by rfl) (by as_aux_lemma => kernel_rfl) (by as_aux_lemma => kernel_rfl) (by as_aux_lemma => kernel_rfl) hsh (by decide) (by intro _ _ _ h; exact h) (by assumption) (Or.inl ⟨by rfl, ?hy⟩) ?_; (case hy => (intro W _; go_simp; (try with_reducible rfl))); clear hsh; intro hsh
        refine wpAnyC_take0 (i := 3) (k := 5) (v := ?_) (d := some 38) rfl (by rfl) (by as_aux_lemma => kernel_rfl) (by as_aux_lemma => kernel_rfl) (by as_aux_lemma => kernel_rfl) hsh (by decide) (by intro _ _ _ h; exact h) (by assumption) (Or.inl ⟨by rfl, ?hy⟩) ?_; (case hy => (intro W _; go_simp; (try with_reducible rfl))); clear hsh; intro hsh
        refine wpAnyC_take0 (i := 4) (k := 5) (v := ?_) (d := some 39) rfl (by rfl) (by as_aux_lemma => kernel_rfl) (by as_aux_lemma => kernel_rfl) (by as_aux_lemma => kernel_rfl) hsh (by decide) (by intro _ _ _ h; exact h) (by assumption) (Or.inl ⟨by rfl, ?hy⟩) ?_; (case hy => (intro W _; go_simp; (try with_reducible rfl))); clear hsh; intro hsh
        refine wpAnyC_tail (by as_aux_lemma => kernel_rfl) (by simp) (by as_aux_lemma => kernel_rfl) ?_; simp only [List.drop_succ_cons, List.drop_zero]; clear hsh
        go_wp2_with (first | (go_at_call 71; refine (CI.out _).mono ?_; rintro e w' ⟨rfl, rfl⟩))
        go_roundw
        case rel => exact ⟨k + 1, by omega, by go_num, by rw [E.out]; congr 1; omega, by first | exact HB.out | exact below_drewN HB.out _⟩
        case measure => simp [intOf]; omega
      · obtain rfl : k = s.size := by omega
        rw [List.take_of_length_le (by rw [str_len]; exact Nat.le_refl _)]
        go_wp2_with (fail)
        go_ret2
        exact ⟨rfl, HB.out⟩
end Go.Proofs.YtecancnojdifaaaDoor
