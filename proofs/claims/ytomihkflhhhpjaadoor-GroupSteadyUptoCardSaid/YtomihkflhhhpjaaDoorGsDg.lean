/- Digest: a hash of parts, in sixteen digits. -/
import Derived.Test.YtomihkflhhhpjaaDoorGsHex
import Derived.Test.YtomihkflhhhpjaaDoorShelf
import Derived.Test.YtomihkflhhhpjaaDoorOpenSl
import Derived.ProofKit
namespace Go.Proofs.YtomihkflhhhpjaaDoor
open Go.RowKit
set_option linter.unusedVariables false
set_option linter.unusedSimpArgs false
def ss (s : ByteArray) : List Value := [.string s]
/-- One byte into the hash. -/
def dgS (h c : Int) : Int := IntKind.u64.wrap (bits BinOp.xor IntKind.u64 h c * 1099511628211)
theorem dgS_rng (h c : Int) : 0 ≤ dgS h c ∧ dgS h c < 18446744073709551616 := by
  unfold dgS
  rw [IntKind.wrap_u64]
  omega
def dgF (h : Int) (l : List UInt8) : Int := l.foldl (fun h c => dgS h c.toNat) h
def dgW (h : Int) (s : ByteArray) : Int := dgS (dgF h s.data.toList) 0
def dgL (l : List ByteArray) : Int := l.foldl dgW 14695981039346656037
theorem dgF_snoc (h : Int) (l : List UInt8) (c : UInt8) : dgF h (l ++ [c]) = dgS (dgF h l) c.toNat := by simp [dgF]
theorem dgL_snoc (l : List ByteArray) (s : ByteArray) : dgL (l ++ [s]) = dgW (dgL l) s := by simp [dgL]
theorem dgL_rng : ∀ l : List ByteArray, 0 ≤ dgL l ∧ dgL l < 18446744073709551616 := fun l => by
  rcases List.eq_nil_or_concat l with rfl | ⟨l', s, rfl⟩
  · exact ⟨by decide, by decide⟩
  · rw [List.concat_eq_append, dgL_snoc]
    exact dgS_rng _ _
/-- Sixteen digits. -/
def dgT (l : List ByteArray) : List UInt8 := List.replicate (16 - (digs 16 (dgL l).toNat).length) 48 ++ digs 16 (dgL l).toNat
theorem dg_len (l : List ByteArray) : 1 ≤ (digs 16 (dgL l).toNat).length ∧ (digs 16 (dgL l).toNat).length ≤ 16 := by
  obtain ⟨u, hu⟩ : ∃ u, (dgL l).toNat = u := ⟨_, rfl⟩
  have h := dgL_rng l
  rw [hu]
  refine ⟨?_, digs_len 16 (by decide) 16 u (Nat.lt_of_lt_of_le (show u < 18446744073709551616 by omega) (by decide)) (by omega)⟩
  by_cases h16 : u < 16
  · rw [digs_small h16]; simp
  · rw [digs_big (by omega) (by decide), List.length_append, List.length_singleton]; omega
set_option maxHeartbeats 1000000 in
theorem digAdd_any (h c : Int) (z : Nat) (w : World) (hc : w.cell? ⟨z, 0, none⟩ = some (.int .u64 h)) (hf : w.frozen? ⟨z, 0, none⟩ = false) (h0 : 0 ≤ c) (h1 : c < 256) :
    Calls Tryd.prog 50 #[.int .u8 c, .pointer (some ⟨z, 0, none⟩)] w fun e w' => e = .returned (.tuple #[]) ∧ w' = w.setCell ⟨z, 0, none⟩ (.int .u64 (dgS h c)) := by
  have e1 : IntKind.u64.wrap c = c := by rw [IntKind.wrap_u64]; omega
  go_enter Tryd.func50, Tryd.ntmps50
  go_wp2_with (fail)
  refine bodyPost_end (results_none rfl _ _ _) rfl ?_
  exact ⟨rfl, rfl⟩
def zero64 : ByteArray := ⟨#[48, 48, 48, 48, 48, 48, 48, 48, 48, 48, 48, 48, 48, 48, 48, 48, 48, 48, 48, 48, 48, 48, 48, 48, 48, 48, 48, 48, 48, 48, 48, 48, 48, 48, 48, 48, 48, 48, 48, 48, 48, 48, 48, 48, 48, 48, 48, 48, 48, 48, 48, 48, 48, 48, 48, 48, 48, 48, 48, 48, 48, 48, 48, 48]⟩
theorem zero64_take : ∀ c, c ≤ 64 → zero64.extract 0 c = ⟨(List.replicate c 48).toArray⟩ := by decide +kernel
theorem hp_is (s p : ByteArray) (b : Bool) (h : Lib.hasPrefix s.data.toList p.data.toList = b) (W : World) : Calls Tryd.prog 22 #[.string s, .string p] W fun e w' => e = .returned (.bool b) ∧ w' = W :=
  (Tryd.strings_HasPrefix s p W).mono fun e w' hh => ⟨by rw [hh.1, h], hh.2⟩
set_option maxRecDepth 100000 in
set_option maxHeartbeats 2000000 in
theorem Repeat0_any (c : Nat) (hc : c ≤ 64) (w : World) :
    Calls Tryd.prog 52 #[.string ⟨#[48]⟩, .int .i64 c] w fun e w' => e = .returned (.string ⟨(List.replicate c 48).toArray⟩) ∧ Below w.heap.size w w' := by
  rcases Nat.lt_or_ge c 2 with h | h
  · obtain rfl | rfl : c = 0 ∨ c = 1 := by omega
    · go_enter Tryd.func52, Tryd.ntmps52
      go_wp2_with (fail)
      refine bodyPost_ret (by simp [results, Tryd.results52, go_sem]; try rfl) rfl ?_
      exact ⟨rfl, Below.refl _ _⟩
    · go_enter Tryd.func52, Tryd.ntmps52
      go_wp2_with (fail)
      refine bodyPost_ret (by simp [results, Tryd.results52, go_sem]; try rfl) rfl ?_
      exact ⟨rfl, Below.refl _ _⟩
  · have b0 : ((c : Int) == 0) = false := beq_eq_false_iff_ne.2 (by omega)
    have b1 : ((c : Int) == 1) = false := beq_eq_false_iff_ne.2 (by omega)
    have b2 : ¬ (c : Int) < 0 := by omega
    have HM := hide (fun W => (Tryd.bits_Mul 1 c (by decide) (by omega) W).mono (fun e w' hh => show e = .returned (.tuple #[.int .u64 0, .int .u64 (c : Int)]) ∧ w' = W from ⟨by
      rw [hh.1, Nat.one_mul, Nat.div_eq_of_lt (by omega), Nat.mod_eq_of_lt (by omega)]
      rfl, hh.2⟩))
    have E := hide (zero64_take c hc)
    unfold zero64 at E
    have hc128 : (c : Int) ≤ 64 := by omega
    have k32 : ((({ data := #[48] } : ByteArray)[0].toNat : Int) == 32) = false := by decide
    have k45 : ((({ data := #[48] } : ByteArray)[0].toNat : Int) == 45) = false := by decide
    have k48 : ((({ data := #[48] } : ByteArray)[0].toNat : Int) == 48) = true := by decide
    have hc1 : (c : Int) ≤ 128 := by omega
    have hm : ¬ (9223372036854775807 : Int) < (c : Int) := by omega
    go_enter Tryd.func52, Tryd.ntmps52
    go_wp2_with (first | (go_at_call 68; refine (HM.out _).mono ?_; rintro e w1 ⟨rfl, rfl⟩) | (go_at_call 22; refine (hp_is _ _ true (by decide +kernel) _).mono ?_; rintro e w1 ⟨rfl, rfl⟩) | (go_at_call 22; refine (hp_is _ _ false (by decide +kernel) _).mono ?_; rintro e w1 ⟨rfl, rfl⟩))
    refine bodyPost_ret (by simp [results, Tryd.results52, go_sem]; try rfl) rfl ?_
    exact ⟨congrArg (fun s => Ending.returned (.string s)) E.out, Below.refl _ _⟩
theorem Repeat0_int (x : Int) (c : Nat) (hx : x = (c : Int)) (hc : c ≤ 64) (w : World) :
    Calls Tryd.prog 52 #[.string ⟨#[48]⟩, .int .i64 x] w fun e w' => e = .returned (.string ⟨(List.replicate c 48).toArray⟩) ∧ Below w.heap.size w w' := by
  subst hx
  exact Repeat0_any c hc w
theorem ba_app (a b : List UInt8) : ((⟨a.toArray⟩ : ByteArray) ++ ⟨b.toArray⟩) = ⟨(a ++ b).toArray⟩ := by
  apply ByteArray.ext
  rw [ByteArray.data_append]
  simp
set_option maxRecDepth 100000 in
set_option maxHeartbeats 4000000 in
theorem Digest_any (A : Option Addr) (n c : Nat) (ps : List ByteArray) (w : World) (hs : Sl w w.heap.size ss 1 A n ps) (hn : n ≤ maxLen) (hf : ∀ s ∈ ps, s.size ≤ maxLen) (h : w.cell? ⟨9, 15, none⟩ = some (.int .u8 4)) (h3 : 9 < w.heap.size) :
    Calls Tryd.prog 31 #[.slice A n c] w fun e w' => e = .returned (.string ⟨(dgT ps).toArray⟩) ∧ Below w.heap.size w w' := by
  unfold maxLen at hn
  have HS := hide hs
  have HF := hide hf
  have HT := hide (show ∀ W, Below w.heap.size w W → W.cell? ⟨9, 15, none⟩ = some (.int .u8 4) from fun W hb => (hb.cell (p := ⟨9, 15, none⟩) h3).trans h)
  obtain ⟨z, hz⟩ : ∃ z, w.heap.size = z := ⟨_, rfl⟩
  have HZ := hide hz
  clear hs hf h
  go_enter Tryd.func31, Tryd.ntmps31
  go_wp2_with (fail)
  (try rw [hz])
  clear hz
  go_loopw [12] (fun ti wr => ∃ j : Nat, j ≤ n ∧ ti = .int .i64 (j : Int) ∧ wr.heap[z]? = some (.cells #[.int .u64 (dgL (ps.take j))] 92 (0, 0)) ∧ Below w.heap.size w wr) (fun ti _ => n - (intOf ti).toNat)
  case atStart => exact ⟨0, Nat.zero_le _, rfl, by rw [← HZ.out]; exact heap_alloc_new w _, (Below.refl _ _).alloc (Nat.le_refl _) _⟩
  case round =>
    obtain ⟨j, hj, rfl, hb, hB⟩ := hrel
    have HB := hide hB
    by_cases hlt : j < n
    · obtain ⟨bb, oo, s, hA, hbb, hx, hc⟩ := (HS.out.below hB).at_ hlt
      have c0 : wr.cell? ⟨bb, oo + j, none⟩ = some (.string s) := by simpa [ss] using hc 0 _ rfl
      have hsz : s.size ≤ maxLen := HF.out s (List.mem_of_getElem? hx)
      unfold maxLen at hsz
      have HX := hide hx
      obtain ⟨H, hH⟩ : ∃ H, dgL (ps.take j) = H := ⟨_, rfl⟩
      rw [hH] at hb
      have HH := hide hH
      have HB0 := hide hb
      have hlt' : (j : Int) < (n : Int) := by omega
      clear hc hx hB hb hH
      subst hA
      rename World => wo
      go_wp2_with (fail)
      go_loopw [18] (fun ti wr => ∃ i : Nat, i ≤ s.size ∧ ti = .int .i64 (i : Int) ∧ wr.heap[z]? = some (.cells #[.int .u64 (dgF H (s.data.toList.take i))] 92 (0, 0)) ∧ Below w.heap.size w wr) (fun ti _ => s.size - (intOf ti).toNat)
      case atStart => exact ⟨0, Nat.zero_le _, rfl, by simpa [dgF] using HB0.out, HB.out⟩
      case round =>
        obtain ⟨i, hi, rfl, hb, hB⟩ := hrel
        have HB1 := hide hB
        have HBI := hide hb
        obtain ⟨G, hG⟩ : ∃ G, dgF H (s.data.toList.take i) = G := ⟨_, rfl⟩
        rw [hG] at hb
        have d0 : wr.cell? ⟨z, 0, none⟩ = some (.int .u64 G) := (block_cell hb 0).trans rfl
        have f0 : wr.frozen? ⟨z, 0, none⟩ = false := block_free hb 0
        have HB2 := hide hb
        have HG := hide hG
        clear hb hB hG
        by_cases his : i < s.size
        · have his' : (i : Int) < (s.size : Int) := by omega
          have hcx : s.data.toList[i]? = some s[i] := by
            rw [Array.getElem?_toList]
            exact Array.getElem?_eq_getElem his
          obtain ⟨x, hxx⟩ : ∃ x, s[i] = x := ⟨_, rfl⟩
          have HN := hide (show dgF H (s.data.toList.take (i + 1)) = dgS G s[i].toNat by rw [take_succ_get hcx, dgF_snoc, HG.out])
          have CA := hide (digAdd_any G s[i].toNat z wr d0 f0 (by omega) (by have := s[i].toNat_lt; omega))
          clear hxx hcx
          go_wp2_with (go_at_call 50; refine CA.out.mono ?_; rintro e w1 ⟨rfl, rfl⟩)
          go_roundw
          case rel => exact ⟨i + 1, by omega, by go_num, by rw [HN.out]; exact block_set HB2.out _, HB1.out.setCell (p := ⟨z, 0, none⟩) (by rw [HZ.out]; exact Nat.le_refl _) _⟩
          case measure => simp [intOf]; omega
        · have hie : i = s.size := by omega
          subst hie
          have his' : ¬ (s.size : Int) < (s.size : Int) := by omega
          have CA := hide (digAdd_any G 0 z wr d0 f0 (by omega) (by omega))
          have HN := hide (show dgL (ps.take (j + 1)) = dgS G 0 by
            rw [take_succ_get HX.out, dgL_snoc, HH.out, dgW, ← HG.out]
            congr 2
            rw [List.take_of_length_le (Nat.le_of_eq (show s.data.toList.length = s.size from Array.length_toList))])
          go_wp2_with (go_at_call 50; refine CA.out.mono ?_; rintro e w1 ⟨rfl, rfl⟩)
          go_roundw
          case rel => exact ⟨j + 1, by omega, by go_num, by rw [HN.out]; exact block_set HB2.out _, HB1.out.setCell (p := ⟨z, 0, none⟩) (by rw [HZ.out]; exact Nat.le_refl _) _⟩
          case measure => simp [intOf]; omega
    · have hje : j = n := by omega
      have hlt' : ¬ (n : Int) < (n : Int) := by omega
      subst hje
      rw [List.take_of_length_le (by rw [HS.out.len]; exact Nat.le_refl _)] at hb
      have hr := dgL_rng ps
      obtain ⟨U, hU⟩ : ∃ U : Nat, dgL ps = (U : Int) := ⟨(dgL ps).toNat, by omega⟩
      have hl := dg_len ps
      rw [hU] at hb hl hr
      simp only [Int.toNat_natCast] at hl
      have d0 : wr.cell? ⟨z, 0, none⟩ = some (.int .u64 (U : Int)) := (block_cell hb 0).trans rfl
      have CF := hide (FormatUint_any U wr (by omega) (HT.out wr hB) (Nat.lt_of_lt_of_le h3 hB.size))
      have HU := hide hU
      obtain ⟨D, hD⟩ : ∃ D, digs 16 U = D := ⟨_, rfl⟩
      rw [hD] at CF hl
      have HDD := hide hD
      have CR := hide (fun W => Repeat0_int (16 - (D.length : Int)) (16 - D.length) (by omega) (by omega) W)
      clear hb hB hr hU hD
      go_wp2_with (first | (go_at_call 51; refine CF.out.mono ?_; rintro e w1 ⟨rfl, hw1⟩; have HB2 := hide (HB.out.trans (hw1.mono HB.out.size)); clear hw1) | (go_at_call 52; refine (CR.out _).mono ?_; rintro e w2 ⟨rfl, hw2⟩; have HB3 := hide (HB2.out.trans (hw2.mono HB2.out.size)); clear hw2))
      refine bodyPost_ret (by simp [results, Tryd.results31, go_sem]; try rfl) rfl ?_
      refine ⟨?_, HB3.out⟩
      rw [ba_app, dgT, HU.out, Int.toNat_natCast, HDD.out]
      simp
end Go.Proofs.YtomihkflhhhpjaaDoor
