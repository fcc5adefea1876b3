/- inqref1.number of decimal digits, at most three; matchWord, actWord. -/
import Derived.Test.YtomihkflhhhpjaaDoorGuAc
import Derived.Test.YtomihkflhhhpjaaDoorShelf
import Derived.WalkKit
import Derived.BigCall
import Derived.BigGuard
import Derived.BigQuiet
namespace Go.Proofs.YtomihkflhhhpjaaDoor
open Go.RowKit
set_option linter.unusedVariables false
set_option linter.unusedSimpArgs false
def dg16 : ByteArray := ⟨#[48, 49, 50, 51, 52, 53, 54, 55, 56, 57, 97, 98, 99, 100, 101, 102]⟩
theorem dg10_at : ∀ k, k < 256 → Lib.indexByte (dg16.extract 0 10).data.toList (UInt8.ofNat k) = if dgB (UInt8.ofNat k) then (k : Int) - 48 else -1 := by decide +kernel
theorem dg10_of (b : UInt8) : Lib.indexByte (dg16.extract 0 10).data.toList ((b.toNat : Int)).toNat.toUInt8 = if dgB b then (b.toNat : Int) - 48 else -1 := by
  have h1 : (UInt8.ofNat b.toNat) = b := UInt8.ofNat_toNat
  have := dg10_at b.toNat (UInt8.toNat_lt b)
  rw [h1] at this
  rw [← this]
  congr 1
theorem dgV_snoc (l : List UInt8) (b : UInt8) : dgV (l ++ [b]) = dgV l * 10 + (b.toNat - 48) := by unfold dgV; rw [List.foldl_append]; rfl
theorem dgV_fold (l : List UInt8) (hl : ∀ b ∈ l, dgB b = true) : ∀ n, l.foldl (fun n b => n * 10 + (b.toNat - 48)) n + 1 ≤ (n + 1) * 10 ^ l.length := by
  induction l with
  | nil => intro n; simp
  | cons b l ih =>
    intro n
    have hb : 48 ≤ b.toNat ∧ b.toNat ≤ 57 := by have := hl b (by simp); simpa [dgB] using this
    have := ih (fun c hc => hl c (by simp [hc])) (n * 10 + (b.toNat - 48))
    rw [List.foldl_cons, List.length_cons, Nat.pow_succ]
    refine Nat.le_trans this ?_
    rw [Nat.mul_comm (10 ^ l.length) 10, ← Nat.mul_assoc]
    exact Nat.mul_le_mul_right _ (by omega)
theorem dgV_lt (l : List UInt8) (hl : ∀ b ∈ l, dgB b = true) (h4 : l.length ≤ 3) : dgV l < 1000 := by
  have h3 := dgV_fold l hl 0
  have h4 : 10 ^ l.length ≤ 10 ^ 3 := Nat.pow_le_pow_right (by decide) h4
  unfold dgV
  omega
/-- What number reads. -/
def numP (l : List UInt8) : Option Nat := if 1 ≤ l.length ∧ l.length ≤ 3 ∧ ¬ (1 < l.length ∧ l[0]? = some 48) ∧ l.all dgB = true then some (dgV l) else none
def numE : Option Nat → Ending
  | none => .returned (.tuple #[.int .i64 0, .bool false])
  | some v => .returned (.tuple #[.int .i64 (v : Nat), .bool true])
set_option maxRecDepth 100000 in
set_option maxHeartbeats 4000000 in
theorem num_bad (s : ByteArray) (w : World) (h : s.size < 1 ∨ 3 < s.size ∨ (1 < s.size ∧ s.data.toList[0]? = some 48)) :
    Calls Tryd.prog 41 #[.string s, .int .i64 10, .int .i64 3] w fun e w' => e = .returned (.tuple #[.int .i64 0, .bool false]) ∧ Below w.heap.size w w' := by
  by_cases h1 : s.size < 1
  · have h1' : (s.size : Int) < 1 := by omega
    clear h
    go_enter Tryd.func41, Tryd.ntmps41
    go_wp2_with (first | go_quiet (fail))
    go_ret2
    exact ⟨rfl, by first | exact Below.refl _ _ | exact below_drewN (Below.refl _ _) _⟩
  · have h1' : decide ((s.size : Int) < 1) = false := by simp; omega
    by_cases h4 : 3 < s.size
    · have h4' : (3 : Int) < (s.size : Int) := by omega
      clear h
      go_enter Tryd.func41, Tryd.ntmps41
      go_wp2_with (first | go_quiet (fail))
      go_ret2
      exact ⟨rfl, by first | exact Below.refl _ _ | exact below_drewN (Below.refl _ _) _⟩
    · have h4' : decide ((3 : Int) < (s.size : Int)) = false := by simp; omega
      have h5 : 1 < s.size ∧ s.data.toList[0]? = some 48 := by rcases h with h | h | h; (exact absurd h h1); (exact absurd h h4); exact h
      have h6 : s[0] = 48 := by have := sget9 s 0 (by omega); rw [h5.2] at this; exact (Option.some.inj this).symm
      have h7 : (s[0].toNat : Int) = 48 := by rw [h6]; rfl
      have h8 : (1 : Int) < (s.size : Int) := by omega
      have h9 : 0 < s.size := by omega
      clear h h6
      go_enter Tryd.func41, Tryd.ntmps41
      go_wp2_with (first | go_quiet (fail))
      go_ret2
      exact ⟨rfl, by first | exact Below.refl _ _ | exact below_drewN (Below.refl _ _) _⟩
set_option maxRecDepth 100000 in
set_option maxHeartbeats 8000000 in
theorem num_in (s : ByteArray) (w : World) (h0 : 1 ≤ s.size) (h4 : s.size ≤ 3) (hz : ¬ (1 < s.size ∧ s.data.toList[0]? = some 48)) :
    Calls Tryd.prog 41 #[.string s, .int .i64 10, .int .i64 3] w fun e w' => e = numE (if s.data.toList.all dgB = true then some (dgV s.data.toList) else none) ∧ Below w.heap.size w w' := by
  have h1' : decide ((s.size : Int) < 1) = false := by simp; omega
  have h4' : decide ((3 : Int) < (s.size : Int)) = false := by simp; omega
  have h9 : 0 < s.size := by omega
  obtain ⟨o, ho⟩ : ∃ o, (if s.data.toList.all dgB = true then some (dgV s.data.toList) else none) = o := ⟨_, rfl⟩
  rw [ho]
  have HO := hide ho
  clear ho
  have HX := hide (show (s.size : Int) ≤ 1 ∨ ((1 : Int) < (s.size : Int) ∧ ((s[0].toNat : Int) == 48) = false) by
    by_cases h : 1 < s.size
    · refine .inr ⟨by omega, ?_⟩
      rw [beq_eq_false_iff_ne]
      intro e
      refine hz ⟨h, ?_⟩
      rw [sget9 s 0 h9]
      exact congrArg some (UInt8.toNat_inj.1 (by show s[0].toNat = 48; omega))
    · exact .inl (by omega))
  clear hz
  go_enter Tryd.func41, Tryd.ntmps41
  rcases HX.out with hx | ⟨hx1, hx2⟩
  · have hx' : decide ((1 : Int) < (s.size : Int)) = false := by simp; omega
    go_wp2_with (first | go_quiet (fail))
    go_loopw [32, 8] (fun vi vn wr => ∃ k : Nat, k ≤ s.size ∧ vi = .int .i64 k ∧ vn = .int .i64 (dgV (s.data.toList.take k) : Nat) ∧ (∀ b ∈ s.data.toList.take k, dgB b = true) ∧ Below w.heap.size w wr) (fun vi _ _ => s.size - (intOf vi).toNat)
    case atStart => exact ⟨0, Nat.zero_le _, rfl, rfl, by simp, by first | exact Below.refl _ _ | exact below_drewN (Below.refl _ _) _⟩
    case round =>
      obtain ⟨k, hk, rfl, rfl, hd, hb⟩ := hrel
      have HB := hide hb
      have HD := hide hd
      clear hb hd
      by_cases hlt : k < s.size
      · have hlt' : (k : Int) < (s.size : Int) := by omega
        have HTS := hide (take_succ_get (sget9 s k hlt))
        have CI := hide (fun W => Tryd.strings_IndexByte (dg16.extract 0 10) (s[k].toNat : Int) W)
        rw [dg10_of s[k]] at CI
        unfold dg16 at CI
        by_cases hkd : dgB s[k] = true
        · rw [if_pos hkd] at CI
          have hv := dgB_iff.1 hkd
          have E := hide (show dgV (s.data.toList.take (k + 1)) = dgV (s.data.toList.take k) * 10 + (s[k].toNat - 48) by rw [HTS.out, dgV_snoc])
          have HD2 := hide (show ∀ b ∈ s.data.toList.take (k + 1), dgB b = true from fun b hb => by
            rw [HTS.out] at hb
            rcases List.mem_append.1 hb with h | h
            · exact HD.out b h
            · rw [List.mem_singleton.1 h]; exact hkd)
          have hlt2 := dgV_lt (s.data.toList.take k) HD.out (by rw [List.length_take]; omega)
          obtain ⟨v, hv2⟩ : ∃ v, dgV (s.data.toList.take k) = v := ⟨_, rfl⟩
          rw [hv2] at hlt2 E ⊢
          obtain ⟨b, hb⟩ : ∃ b, s[k] = b := ⟨_, rfl⟩
          rw [hb] at hv CI E
          have hn0 : decide ((b.toNat : Int) - 48 < 0) = false := by simp; omega
          clear hv2 hkd
          go_wp2_with (fail)
          have HS : True := trivial
          refine wp_region_chain (fun _ => True) 5 (by as_aux_lemma => kernel_rfl) (N := 7) (by as_aux_lemma => kernel_rfl) ?_; intro hsh
          have HS : True := trivial
          refine wpAnyC_take0 (i := 0) (k := 5) (v := ?_) (d := some 35) rfl (by rfl) (by as_aux_lemma => kernel_rfl) (by as_aux_lemma => kernel_rfl) (by as_aux_lemma => kernel_rfl) hsh (by decide) (by intro _ _ _ h; exact h) (by assumption) (Or.inl ⟨by rfl, ?hy⟩) ?_; (case hy => (intro W _; go_simp; (try with_reducible rfl))); clear hsh; intro hsh
          refine wpAnyC_take0 (i := 1) (k := 5) (v := ?_) (d := some 36) rfl (by rfl) (by as_aux_lemma => kernel_rfl) (by as_aux_lemma => kernel_rfl) (by as_aux_lemma => kernel_rfl) hsh (by decide) (by intro _ _ _ h; exact h) (by assumption) (Or.inl ⟨by rfl, ?hy⟩) ?_; (case hy => (intro W _; go_simp; (try with_reducible rfl))); clear hsh; intro hsh
          refine wpAnyC_take0 (i := 2) (k := 5) (v := ?_) (d := some 37) rfl (by rfl) (by as_aux_lemma => kernel_rfl) (by as_aux_lemma => kernel_rfl) (by as_aux_lemma => kernel_rfl) hsh (by decide) (by intro _ _ _ h; exact h) (by assumption) (Or.inl ⟨by rfl, ?hy⟩) ?_; (case hy => (intro W _; go_simp; (try with_reducible rfl))); clear hsh; intro hsh
          refine wpAnyC_take0 (i := 3) (k := 5) (v := ?_) (d := some 38) rfl (by rfl) (by as_aux_lemma => kernel_rfl) (by as_aux_lemma => kernel_rfl) (by as_aux_lemma => kernel_rfl) hsh (by decide) (by intro _ _ _ h; exact h) (by assumption) (Or.inl ⟨by rfl, ?hy⟩) ?_; (case hy => (intro W _; go_simp; (try with_reducible rfl))); clear hsh; intro hsh
          refine wpAnyC_take0 (i := 4) (k := 5) (v := ?_) (d := some 39) rfl (by rfl) (by as_aux_lemma => kernel_rfl) (by as_aux_lemma => kernel_rfl) (by as_aux_lemma => kernel_rfl) hsh (by decide) (by intro _ _ _ h; exact h) (by assumption) (Or.inl ⟨by rfl, ?hy⟩) ?_; (case hy => (intro W _; go_simp; (try with_reducible rfl))); clear hsh; intro hsh
          refine wpAnyC_tail (by as_aux_lemma => kernel_rfl) (by simp) (by as_aux_lemma => kernel_rfl) ?_; simp only [List.drop_succ_cons, List.drop_zero]; clear hsh
          go_wp2_with (first | (go_at_call 27; refine (CI.out _).mono ?_; rintro e w' ⟨rfl, rfl⟩))
          go_roundw
          case rel => exact ⟨k + 1, by omega, by go_num, by rw [E.out]; congr 1; omega, HD2.out, by first | exact HB.out | exact below_drewN HB.out _⟩
          case measure => simp [intOf]; omega
        · rw [if_neg hkd] at CI
          have E := hide (show o = none by
            rw [← HO.out, if_neg]
            intro hh
            exact hkd (List.all_eq_true.1 hh _ (List.mem_of_getElem? (sget9 s k hlt))))
          obtain ⟨b, hb⟩ : ∃ b, s[k] = b := ⟨_, rfl⟩
          rw [hb] at CI
          obtain ⟨v, hv2⟩ : ∃ v, dgV (s.data.toList.take k) = v := ⟨_, rfl⟩
          rw [hv2]
          clear hv2 hkd
          go_wp2_with (fail)
          have HS : True := trivial
          refine wp_region_chain (fun _ => True) 5 (by as_aux_lemma => kernel_rfl) (N := 7) (by as_aux_lemma => kernel_rfl) ?_; intro hsh
          have HS : True := trivial
          refine wpAnyC_take0 (i := 0) (k := 5) (v := ?_) (d := some 35) rfl (by rfl) (by as_aux_lemma => kernel_rfl) (by as_aux_lemma => kernel_rfl) (by as_aux_lemma => kernel_rfl) hsh (by decide) (by intro _ _ _ h; exact h) (by assumption) (Or.inl ⟨by rfl, ?hy⟩) ?_; (case hy => (intro W _; go_simp; (try with_reducible rfl))); clear hsh; intro hsh
          refine wpAnyC_take0 (i := 1) (k := 5) (v := ?_) (d := some 36) rfl (by rfl) (by as_aux_lemma => kernel_rfl) (by as_aux_lemma => kernel_rfl) (by as_aux_lemma => kernel_rfl) hsh (by decide) (by intro _ _ _ h; exact h) (by assumption) (Or.inl ⟨by rfl, ?hy⟩) ?_; (case hy => (intro W _; go_simp; (try with_reducible rfl))); clear hsh; intro hsh
          refine wpAnyC_take0 (i := 2) (k := 5) (v := ?_) (d := some 37) rfl (by rfl) (by as_aux_lemma => kernel_rfl) (by as_aux_lemma => kernel_rfl) (by as_aux_lemma => kernel_rfl) hsh (by decide) (by intro _ _ _ h; exact h) (by assumption) (Or.inl ⟨by rfl, ?hy⟩) ?_; (case hy => (intro W _; go_simp; (try with_reducible rfl))); clear hsh; intro hsh
          refine wpAnyC_take0 (i := 3) (k := 5) (v := ?_) (d := some 38) rfl (by rfl) (by as_aux_lemma => kernel_rfl) (by as_aux_lemma => kernel_rfl) (by as_aux_lemma => kernel_rfl) hsh (by decide) (by intro _ _ _ h; exact h) (by assumption) (Or.inl ⟨by rfl, ?hy⟩) ?_; (case hy => (intro W _; go_simp; (try with_reducible rfl))); clear hsh; intro hsh
          refine wpAnyC_take0 (i := 4) (k := 5) (v := ?_) (d := some 39) rfl (by rfl) (by as_aux_lemma => kernel_rfl) (by as_aux_lemma => kernel_rfl) (by as_aux_lemma => kernel_rfl) hsh (by decide) (by intro _ _ _ h; exact h) (by assumption) (Or.inl ⟨by rfl, ?hy⟩) ?_; (case hy => (intro W _; go_simp; (try with_reducible rfl))); clear hsh; intro hsh
          refine wpAnyC_tail (by as_aux_lemma => kernel_rfl) (by simp) (by as_aux_lemma => kernel_rfl) ?_; simp only [List.drop_succ_cons, List.drop_zero]; clear hsh
          go_wp2_with (first | (go_at_call 27; refine (CI.out _).mono ?_; rintro e w' ⟨rfl, rfl⟩))
          go_ret2
          exact ⟨by rw [E.out]; rfl, by first | exact HB.out | exact below_drewN HB.out _⟩
      · obtain rfl : k = s.size := by omega
        have E := hide (show o = some (dgV s.data.toList) by
          rw [← HO.out, if_pos]
          rw [List.all_eq_true]
          intro b hb
          exact HD.out b (by rw [List.take_of_length_le (by rw [tsz]; exact Nat.le_refl _)]; exact hb))
        rw [List.take_of_length_le (by rw [tsz]; exact Nat.le_refl _)]
        go_wp2_with (fail)
        go_ret2
        exact ⟨by rw [E.out]; rfl, HB.out⟩
  · have hx3 : ¬ (s[0].toNat : Int) = 48 := by simpa using hx2
    go_wp2_with (first | go_quiet (fail))
    go_loopw [32, 8] (fun vi vn wr => ∃ k : Nat, k ≤ s.size ∧ vi = .int .i64 k ∧ vn = .int .i64 (dgV (s.data.toList.take k) : Nat) ∧ (∀ b ∈ s.data.toList.take k, dgB b = true) ∧ Below w.heap.size w wr) (fun vi _ _ => s.size - (intOf vi).toNat)
    case atStart => exact ⟨0, Nat.zero_le _, rfl, rfl, by simp, by first | exact Below.refl _ _ | exact below_drewN (Below.refl _ _) _⟩
    case round =>
      obtain ⟨k, hk, rfl, rfl, hd, hb⟩ := hrel
      have HB := hide hb
      have HD := hide hd
      clear hb hd
      by_cases hlt : k < s.size
      · have hlt' : (k : Int) < (s.size : Int) := by omega
        have HTS := hide (take_succ_get (sget9 s k hlt))
        have CI := hide (fun W => Tryd.strings_IndexByte (dg16.extract 0 10) (s[k].toNat : Int) W)
        rw [dg10_of s[k]] at CI
        unfold dg16 at CI
        by_cases hkd : dgB s[k] = true
        · rw [if_pos hkd] at CI
          have hv := dgB_iff.1 hkd
          have E := hide (show dgV (s.data.toList.take (k + 1)) = dgV (s.data.toList.take k) * 10 + (s[k].toNat - 48) by rw [HTS.out, dgV_snoc])
          have HD2 := hide (show ∀ b ∈ s.data.toList.take (k + 1), dgB b = true from fun b hb => by
            rw [HTS.out] at hb
            rcases List.mem_append.1 hb with h | h
            · exact HD.out b h
            · rw [List.mem_singleton.1 h]; exact hkd)
          have hlt2 := dgV_lt (s.data.toList.take k) HD.out (by rw [List.length_take]; omega)
          obtain ⟨v, hv2⟩ : ∃ v, dgV (s.data.toList.take k) = v := ⟨_, rfl⟩
          rw [hv2] at hlt2 E ⊢
          obtain ⟨b, hb⟩ : ∃ b, s[k] = b := ⟨_, rfl⟩
          rw [hb] at hv CI E
          have hn0 : decide ((b.toNat : Int) - 48 < 0) = false := by simp; omega
          clear hv2 hkd
          go_wp2_with (fail)
          have HS : True := trivial
          refine wp_region_chain (fun _ => True) 5 (by as_aux_lemma => kernel_rfl) (N := 7) (by as_aux_lemma => kernel_rfl) ?_; intro hsh
          have HS : True := trivial
          refine wpAnyC_take0 (i := 0) (k := 5) (v := ?_) (d := some 35) rfl (by rfl) (by as_aux_lemma => kernel_rfl) (by as_aux_lemma => kernel_rfl) (by as_aux_lemma => kernel_rfl) hsh (by decide) (by intro _ _ _ h; exact h) (by assumption) (Or.inl ⟨by rfl, ?hy⟩) ?_; (case hy => (intro W _; go_simp; (try with_reducible rfl))); clear hsh; intro hsh
          refine wpAnyC_take0 (i := 1) (k := 5) (v := ?_) (d := some 36) rfl (by rfl) (by as_aux_lemma => kernel_rfl) (by as_aux_lemma => kernel_rfl) (by as_aux_lemma => kernel_rfl) hsh (by decide) (by intro _ _ _ h; exact h) (by assumption) (Or.inl ⟨by rfl, ?hy⟩) ?_; (case hy => (intro W _; go_simp; (try with_reducible rfl))); clear hsh; intro hsh
          refine wpAnyC_take0 (i := 2) (k := 5) (v := ?_) (d := some 37) rfl (by rfl) (by as_aux_lemma => kernel_rfl) (by as_aux_lemma => kernel_rfl) (by as_aux_lemma => kernel_rfl) hsh (by decide) (by intro _ _ _ h; exact h) (by assumption) (Or.inl ⟨by rfl, ?hy⟩) ?_; (case hy => (intro W _; go_simp; (try with_reducible rfl))); clear hsh; intro hsh
          refine wpAnyC_take0 (i := 3) (k := 5) (v := ?_) (d := some 38) rfl (by rfl) (by as_aux_lemma => kernel_rfl) (by as_aux_lemma => kernel_rfl) (by as_aux_lemma => kernel_rfl) hsh (by decide) (by intro _ _ _ h; exact h) (by assumption) (Or.inl ⟨by rfl, ?hy⟩) ?_; (case hy => (intro W _; go_simp; (try with_reducible rfl))); clear hsh; intro hsh
          refine wpAnyC_take0 (i := 4) (k := 5) (v := ?_) (d := some 39) rfl (by rfl) (by as_aux_lemma => kernel_rfl) (by as_aux_lemma => kernel_rfl) (by as_aux_lemma => kernel_rfl) hsh (by decide) (by intro _ _ _ h; exact h) (by assumption) (Or.inl ⟨by rfl, ?hy⟩) ?_; (case hy => (intro W _; go_simp; (try with_reducible rfl))); clear hsh; intro hsh
          refine wpAnyC_tail (by as_aux_lemma => kernel_rfl) (by simp) (by as_aux_lemma => kernel_rfl) ?_; simp only [List.drop_succ_cons, List.drop_zero]; clear hsh
          go_wp2_with (first | (go_at_call 27; refine (CI.out _).mono ?_; rintro e w' ⟨rfl, rfl⟩))
          go_roundw
          case rel => exact ⟨k + 1, by omega, by go_num, by rw [E.out]; congr 1; omega, HD2.out, by first | exact HB.out | exact below_drewN HB.out _⟩
          case measure => simp [intOf]; omega
        · rw [if_neg hkd] at CI
          have E := hide (show o = none by
            rw [← HO.out, if_neg]
            intro hh
            exact hkd (List.all_eq_true.1 hh _ (List.mem_of_getElem? (sget9 s k hlt))))
          obtain ⟨b, hb⟩ : ∃ b, s[k] = b := ⟨_, rfl⟩
          rw [hb] at CI
          obtain ⟨v, hv2⟩ : ∃ v, dgV (s.data.toList.take k) = v := ⟨_, rfl⟩
          rw [hv2]
          clear hv2 hkd
          go_wp2_with (fail)
          have HS : True := trivial
          refine wp_region_chain (fun _ => True) 5 (by as_aux_lemma => kernel_rfl) (N := 7) (by as_aux_lemma => kernel_rfl) ?_; intro hsh
          have HS : True := trivial
          refine wpAnyC_take0 (i := 0) (k := 5) (v := ?_) (d := some 35) rfl (by rfl) (by as_aux_lemma => kernel_rfl) (by as_aux_lemma => kernel_rfl) (by as_aux_lemma => kernel_rfl) hsh (by decide) (by intro _ _ _ h; exact h) (by assumption) (Or.inl ⟨by rfl, ?hy⟩) ?_; (case hy => (intro W _; go_simp; (try with_reducible rfl))); clear hsh; intro hsh
          refine wpAnyC_take0 (i := 1) (k := 5) (v := ?_) (d := some 36) rfl (by rfl) (by as_aux_lemma => kernel_rfl) (by as_aux_lemma => kernel_rfl) (by as_aux_lemma => kernel_rfl) hsh (by decide) (by intro _ _ _ h; exact h) (by assumption) (Or.inl ⟨by rfl, ?hy⟩) ?_; (case hy => (intro W _; go_simp; (try with_reducible rfl))); clear hsh; intro hsh
          refine wpAnyC_take0 (i := 2) (k := 5) (v := ?_) (d := some 37) rfl (by rfl) (by as_aux_lemma => kernel_rfl) (by as_aux_lemma => kernel_rfl) (by as_aux_lemma => kernel_rfl) hsh (by decide) (by intro _ _ _ h; exact h) (by assumption) (Or.inl ⟨by rfl, ?hy⟩) ?_; (case hy => (intro W _; go_simp; (try with_reducible rfl))); clear hsh; intro hsh
          refine wpAnyC_take0 (i := 3) (k := 5) (v := ?_) (d := some 38) rfl (by rfl) (by as_aux_lemma => kernel_rfl) (by as_aux_lemma => kernel_rfl) (by as_aux_lemma => kernel_rfl) hsh (by decide) (by intro _ _ _ h; exact h) (by assumption) (Or.inl ⟨by rfl, ?hy⟩) ?_; (case hy => (intro W _; go_simp; (try with_reducible rfl))); clear hsh; intro hsh
          refine wpAnyC_take0 (i := 4) (k := 5) (v := ?_) (d := some 39) rfl (by rfl) (by as_aux_lemma => kernel_rfl) (by as_aux_lemma => kernel_rfl) (by as_aux_lemma => kernel_rfl) hsh (by decide) (by intro _ _ _ h; exact h) (by assumption) (Or.inl ⟨by rfl, ?hy⟩) ?_; (case hy => (intro W _; go_simp; (try with_reducible rfl))); clear hsh; intro hsh
          refine wpAnyC_tail (by as_aux_lemma => kernel_rfl) (by simp) (by as_aux_lemma => kernel_rfl) ?_; simp only [List.drop_succ_cons, List.drop_zero]; clear hsh
          go_wp2_with (first | (go_at_call 27; refine (CI.out _).mono ?_; rintro e w' ⟨rfl, rfl⟩))
          go_ret2
          exact ⟨by rw [E.out]; rfl, by first | exact HB.out | exact below_drewN HB.out _⟩
      · obtain rfl : k = s.size := by omega
        have E := hide (show o = some (dgV s.data.toList) by
          rw [← HO.out, if_pos]
          rw [List.all_eq_true]
          intro b hb
          exact HD.out b (by rw [List.take_of_length_le (by rw [tsz]; exact Nat.le_refl _)]; exact hb))
        rw [List.take_of_length_le (by rw [tsz]; exact Nat.le_refl _)]
        go_wp2_with (fail)
        go_ret2
        exact ⟨by rw [E.out]; rfl, HB.out⟩
theorem number_any (s : ByteArray) (w : World) :
    Calls Tryd.prog 41 #[.string s, .int .i64 10, .int .i64 3] w fun e w' => e = numE (numP s.data.toList) ∧ Below w.heap.size w w' := by
  by_cases h : s.size < 1 ∨ 3 < s.size ∨ (1 < s.size ∧ s.data.toList[0]? = some 48)
  · have E : numP s.data.toList = none := by
      rw [numP, if_neg]
      rw [tsz]
      rintro ⟨a, b, c, _⟩
      rcases h with h | h | h
      · omega
      · omega
      · exact c h
    rw [E]
    exact num_bad s w h
  · have h1 : 1 ≤ s.size := by omega
    have h3 : s.size ≤ 3 := by omega
    have hz : ¬ (1 < s.size ∧ s.data.toList[0]? = some 48) := fun hh => h (.inr (.inr hh))
    have E : numP s.data.toList = if s.data.toList.all dgB = true then some (dgV s.data.toList) else none := by
      rw [numP]
      by_cases ha : s.data.toList.all dgB = true
      · rw [if_pos ⟨by rw [tsz]; exact h1, by rw [tsz]; exact h3, by rw [tsz]; exact hz, ha⟩, if_pos ha]
      · rw [if_neg (fun hh => ha hh.2.2.2), if_neg ha]
    rw [E]
    exact num_in s w h1 h3 hz
def wR (k : Nat) : List UInt8 := match k with
  | 1 => [102, 117, 110, 99]
  | 2 => [109, 111, 100, 117, 108, 101]
  | 3 => [102, 105, 108, 101]
  | 4 => [107, 105, 110, 100]
  | _ => [115, 97, 121]
set_option maxHeartbeats 4000000 in
theorem matchWord_any (k : Nat) (h1 : 1 ≤ k) (h5 : k ≤ 5) (w : World) :
    Calls Tryd.prog 39 #[.int .i64 (k : Int)] w fun e w' => e = .returned (.string (bs (wR k))) ∧ Below w.heap.size w w' := by
  obtain rfl | rfl | rfl | rfl | rfl : k = 1 ∨ k = 2 ∨ k = 3 ∨ k = 4 ∨ k = 5 := by omega
  all_goals
    go_enter Tryd.func39, Tryd.ntmps39
    go_wp2
    go_ret
    exact ⟨rfl, (Below.refl _ _).alloc (Nat.le_refl _) _⟩
set_option maxHeartbeats 4000000 in
theorem actWord_any (k : Nat) (h1 : 1 ≤ k) (h5 : k ≤ 4) (w : World) :
    Calls Tryd.prog 42 #[.int .i64 (k : Int)] w fun e w' => e = .returned (.string (bs (wA k))) ∧ Below w.heap.size w w' := by
  obtain rfl | rfl | rfl | rfl : k = 1 ∨ k = 2 ∨ k = 3 ∨ k = 4 := by omega
  all_goals
    go_enter Tryd.func42, Tryd.ntmps42
    go_wp2
    go_ret
    exact ⟨rfl, (Below.refl _ _).alloc (Nat.le_refl _) _⟩
end Go.Proofs.YtomihkflhhhpjaaDoor
