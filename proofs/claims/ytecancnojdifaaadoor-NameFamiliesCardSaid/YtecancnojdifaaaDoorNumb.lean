/- Walks of the reference's inBase and Told; strconv.Itoa; at every number. -/
import Derived.Test.YtecancnojdifaaaDoorNmGA
import Derived.Test.YtecancnojdifaaaDoorShelf
import Derived.BigQuiet
import Derived.Laws.BytesArg
namespace Go.Proofs.YtecancnojdifaaaDoor
open Go.RowKit Go.Sort
set_option linter.unusedVariables false
def digsB16 : ByteArray := ⟨#[48, 49, 50, 51, 52, 53, 54, 55, 56, 57, 97, 98, 99, 100, 101, 102]⟩
theorem digsB16_at : ∀ k, k < 16 → (digsB16.extract k (k + 1)).data.toList = [hexc k] := by decide +kernel
theorem hexc_of {u b : Nat} (hb : b ≤ 16) (h2 : 0 < b) : (digsB16.extract (u % b) (u % b + 1)).data.toList = [hexc (u % b)] := digsB16_at _ (Nat.lt_of_lt_of_le (Nat.mod_lt _ h2) hb)
theorem bytes_of {x : ByteArray} {l : List UInt8} (h : x.data.toList = l) : x = ⟨l.toArray⟩ := by
  rw [← h]
theorem app_toList (a b : ByteArray) : (a ++ b).data.toList = a.data.toList ++ b.data.toList := by rw [ByteArray.data_append, Array.toList_append]
set_option maxRecDepth 100000 in
set_option maxHeartbeats 2000000 in
theorem inBase_any (u b : Nat) (w : World) (hb2 : 2 ≤ b) (hb : b ≤ 16) (hu : u < 9223372036854775808) :
    Calls Tryd.prog 102 #[.int .i64 u, .int .i64 b] w fun e w' => e = .returned (.string ⟨(digs b u).toArray⟩) ∧ Below w.heap.size w w' := by
  go_enter Tryd.func102, Tryd.ntmps102
  go_wp2_with (fail)
  go_loopw [0, 5] (fun a c wr => ∃ (v : Nat) (s : ByteArray), a = .int .i64 v ∧ c = .string s ∧ v ≤ u ∧ digs b v ++ s.data.toList = digs b u ∧ s.size + (digs b v).length = (digs b u).length ∧ Below w.heap.size w wr) (fun a _ _ => (intOf a).toNat)
  case atStart => exact ⟨u, ⟨#[]⟩, rfl, rfl, Nat.le_refl _, List.append_nil _, Nat.zero_add _, Below.refl _ _⟩
  case round =>
    obtain ⟨v, s, rfl, rfl, hv, heq, hsz, hB⟩ := hrel
    obtain ⟨r, hr⟩ : ∃ r, v % b = r := ⟨_, rfl⟩
    obtain ⟨q, hq⟩ : ∃ q, v / b = q := ⟨_, rfl⟩
    have hrb : r < b := by rw [← hr]; exact Nat.mod_lt _ (by omega)
    have hxc := digsB16_at r (by omega)
    have i1 : (v : Int).tmod (b : Int) = (r : Int) := by rw [← hr]; exact (Int.ofNat_tmod v b).symm
    have i2 : (v : Int).tdiv (b : Int) = (q : Int) := by rw [← hq]; exact (Int.ofNat_tdiv v b).symm
    have i3 : (v : Int) % (b : Int) = (r : Int) := by omega
    have i4 : (v : Int) / (b : Int) = (q : Int) := by rw [← hq]; exact (Int.natCast_ediv v b)
    have hlen : (digs b u).length ≤ 63 := digs_len b hb2 63 u (Nat.lt_of_lt_of_le (by omega) (Nat.pow_le_pow_left hb2 63)) (by omega)
    have hs63 : s.size ≤ 63 := by omega
    have hxs : (digsB16.extract r (r + 1)).size = 1 := by
      have h1 : (digsB16.extract r (r + 1)).data.toList.length = (digsB16.extract r (r + 1)).size := by rw [Array.length_toList]; rfl
      rw [← h1, hxc]; rfl
    unfold digsB16 at hxc hxs
    by_cases hvb : v < b
    · have hq0 : q = 0 := by rw [← hq]; exact Nat.div_eq_of_lt hvb
      have E := hide (show hexc r :: s.data.toList = digs b u by
        rw [← heq, digs_small hvb, show r = v by rw [← hr]; exact Nat.mod_eq_of_lt hvb]; rfl)
      have HX := hide hxc
      subst hq0
      clear hxc heq hr hq hsz
      go_wp2_with (go_quiet (fail))
      go_ret
      exact ⟨congrArg (fun x => Ending.returned (Value.string x)) (bytes_of (by rw [app_toList, HX.out]; exact E.out)), below_drewN hB _⟩
    · have hq1 : 1 ≤ q := by rw [← hq]; exact (Nat.one_le_div_iff (by omega)).2 (by omega)
      have hqv : q < v := by rw [← hq]; exact Nat.div_lt_self (by omega) (by omega)
      have hd : digs b v = digs b q ++ [hexc r] := by rw [digs_big (by omega) hb2, hq, hr]
      have E := hide (show digs b q ++ (hexc r :: s.data.toList) = digs b u by rw [← heq, hd]; simp)
      have E3 := hide (show s.size + 1 + (digs b q).length = (digs b u).length by rw [← hsz, hd, List.length_append, List.length_singleton]; omega)
      have HX := hide hxc
      have HXS := hide hxs
      have hq2 : ¬ (q : Int) = 0 := by omega
      have hq3 : ((q : Int) == 0) = false := by simpa using hq2
      clear hxc heq hr hq hsz hd
      go_wp2_with (go_quiet (fail))
      go_roundw
      case rel => exact ⟨q, _ ++ s, rfl, rfl, by omega, by rw [app_toList, HX.out]; exact E.out, by rw [ByteArray.size_append, HXS.out]; have := E3.out; omega, below_drewN hB _⟩
      case measure => simp [intOf]; omega
/-- Told at a number that is not negative. -/
theorem Told_any (n : Int) (w : World) (h0 : 0 ≤ n) (h1 : n < 9223372036854775808) :
    Calls Tryd.prog 72 #[.int .i64 n] w fun e w' => e = .returned (.string ⟨(toldL n).toArray⟩) ∧ Below w.heap.size w w' := by
  obtain ⟨u, rfl⟩ := Int.eq_ofNat_of_zero_le h0
  have H := hide (fun W => inBase_any u 10 W (by decide) (by decide) (by omega))
  go_enter Tryd.func72, Tryd.ntmps72
  go_wp2_with (go_at_call 102; refine (H.out _).mono ?_; rintro e w1 ⟨rfl, hB1⟩)
  go_ret
  exact ⟨rfl, hB1⟩
/-- strconv.Itoa at a number that is not negative. -/
theorem Itoa_any (n : Int) (w : World) (h0 : 0 ≤ n) (h1 : n ≤ 9223372036854775807) (htab : Lib.TabIs Tryd.prog w "internal/strconv.uint64pow10" .u64 Lib.pow10Tab) :
    Calls Tryd.prog 65 #[.int .i64 n] w fun e w' => e = .returned (.string ⟨(toldL n).toArray⟩) ∧ Below w.heap.size w w' := by
  refine (Tryd.strconv_Itoa n (by omega) h1 w htab).mono ?_
  rintro e w' ⟨rfl, k, os, rfl⟩
  rw [itoa_told h0]
  exact ⟨rfl, rfl, rfl, rfl, by simp [grow, World.drewN], fun j hj => by rw [heap_grow_old _ _ (by simpa [World.drewN] using hj)]; rfl⟩
set_option maxRecDepth 100000 in
set_option maxHeartbeats 2000000 in
/-- Told at a negative number. -/
theorem Told_neg (u : Nat) (w : World) (h0 : 0 < u) (h1 : u ≤ 9223372036854775808) :
    Calls Tryd.prog 72 #[.int .i64 (-(u : Int))] w fun e w' => e = .returned (.string ⟨(45 :: digs 10 u).toArray⟩) ∧ Below w.heap.size w w' := by
  have hu2 : ¬ (0 : Int) ≤ -(u : Int) := by omega
  have hu3 : decide ((0 : Int) ≤ -(u : Int)) = false := by simpa using hu2
  go_enter Tryd.func72, Tryd.ntmps72
  go_wp2_with (fail)
  go_loopw [0, 3] (fun a c wr => ∃ (v : Nat) (s : ByteArray), a = .int .i64 (-(v : Int)) ∧ c = .string s ∧ v ≤ u ∧ (if v = 0 then [] else digs 10 v) ++ s.data.toList = digs 10 u ∧ s.size ≤ (digs 10 u).length ∧ Below w.heap.size w wr) (fun a _ _ => (-(intOf a)).toNat)
  case atStart => exact ⟨u, ⟨#[]⟩, rfl, rfl, Nat.le_refl _, by rw [if_neg (by omega)]; exact List.append_nil _, Nat.zero_le _, Below.refl _ _⟩
  case round =>
    obtain ⟨v, s, rfl, rfl, hv, heq, hsz, hB⟩ := hrel
    by_cases hv0 : v = 0
    · subst hv0
      have E := hide (show s.data.toList = digs 10 u by simpa using heq)
      have h63 : (digs 10 u).length ≤ 64 := digs_len 10 (by decide) 64 u (Nat.lt_of_lt_of_le (by omega) (Nat.pow_le_pow_left (show 2 ≤ 10 by decide) 64)) (by decide)
      have hs63 : s.size ≤ 64 := by omega
      clear heq hsz
      go_wp2_with (fail)
      go_ret
      exact ⟨congrArg (fun x => Ending.returned (Value.string x)) (bytes_of (by rw [app_toList, E.out]; rfl)), hB⟩
    · obtain ⟨r, hr⟩ : ∃ r, v % 10 = r := ⟨_, rfl⟩
      obtain ⟨q, hq⟩ : ∃ q, v / 10 = q := ⟨_, rfl⟩
      have hrb : r < 10 := by omega
      have i1 : (-(v : Int)).tmod 10 = -(r : Int) := by rw [Int.neg_tmod, ← hr]; exact congrArg Neg.neg (Int.ofNat_tmod v 10).symm
      have i2 : (-(v : Int)).tdiv 10 = -(q : Int) := by rw [Int.neg_tdiv, ← hq]; exact congrArg Neg.neg (Int.ofNat_tdiv v 10).symm
      have hn0 : (-(v : Int) == 0) = false := by simpa using hv0
      have hs63 : s.size ≤ 64 := by
        have h63 : (digs 10 u).length ≤ 64 := digs_len 10 (by decide) 64 u (Nat.lt_of_lt_of_le (by omega) (Nat.pow_le_pow_left (show 2 ≤ 10 by decide) 64)) (by decide)
        omega
      have hcv : (convert 81 9 (.slice (some ⟨wr.heap.size, 0, none⟩) 1 1)).run Tryd.prog (wr.alloc (.cells #[.int .u8 (48 + r)] 5)) = .ok (.string ⟨#[hexc r]⟩) (wr.alloc (.cells #[.int .u8 (48 + r)] 5)) := by
        have h := run_convert_bytes_arg (P := Tryd.prog) (wr.alloc (.cells #[.int .u8 (48 + r)] 5)) 81 5 Tryd.underlying81 Tryd.underlying5 wr.heap.size 0 1 1 [48 + (r : Int)] rfl (fun i hi => by
          obtain rfl : i = 0 := by omega
          exact (block_cell (heap_alloc_new wr _) 0).trans rfl) 9 Tryd.underlying9
        rw [h]
        have e : strOfNums [48 + (r : Int)] = ⟨#[hexc r]⟩ := by
          have h9 : (48 + (r : Int)).toNat = 48 + r := by omega
          rw [hexc, if_pos hrb]
          simp only [strOfNums, List.map_cons, List.map_nil, h9]
        rw [e]
      have E := hide (show (if q = 0 then [] else digs 10 q) ++ (hexc r :: s.data.toList) = digs 10 u by
        rw [← heq, if_neg hv0]
        by_cases hv9 : v < 10
        · rw [digs_small hv9, if_pos (by omega), show r = v by omega]; rfl
        · rw [if_neg (by omega), digs_big (b := 10) (u := v) (by omega) (by decide), hq, hr]; simp)
      have E3 := hide (show s.size + 1 ≤ (digs 10 u).length by
        rw [← E.out, List.length_append, List.length_cons]
        have : s.data.toList.length = s.size := by rw [Array.length_toList]; rfl
        omega)
      have hB1 := hB.alloc hB.size (.cells #[.int .u8 (48 + (r : Int))] 5)
      have hqv : q < v := by omega
      have hsz1 : (⟨#[hexc r]⟩ : ByteArray).size = 1 := rfl
      clear heq hr hq
      go_wp2_with (fail)
      go_roundw
      case rel => exact ⟨q, _ ++ s, rfl, rfl, by omega, by rw [app_toList]; exact E.out, by rw [ByteArray.size_append, hsz1]; have := E3.out; omega, hB1⟩
      case measure => simp [intOf]; omega
theorem Told_all (n : Int) (w : World) (h0 : -9223372036854775808 ≤ n) (h1 : n ≤ 9223372036854775807) :
    Calls Tryd.prog 72 #[.int .i64 n] w fun e w' => e = .returned (.string ⟨(toldZ n).toArray⟩) ∧ Below w.heap.size w w' := by
  by_cases h : 0 ≤ n
  · rw [toldZ, if_pos h]; exact Told_any n w h (by omega)
  · rw [toldZ, if_neg h]
    have := Told_neg (-n).toNat w (by omega) (by omega)
    rw [show (-(((-n).toNat : Nat) : Int)) = n by omega] at this
    exact this
theorem Itoa_all (n : Int) (w : World) (h0 : -9223372036854775808 ≤ n) (h1 : n ≤ 9223372036854775807) (htab : Lib.TabIs Tryd.prog w "internal/strconv.uint64pow10" .u64 Lib.pow10Tab) :
    Calls Tryd.prog 65 #[.int .i64 n] w fun e w' => e = .returned (.string ⟨(toldZ n).toArray⟩) ∧ Below w.heap.size w w' := by
  refine (Tryd.strconv_Itoa n h0 h1 w htab).mono ?_
  rintro e w' ⟨rfl, k, os, rfl⟩
  rw [itoa_toldZ]
  exact ⟨rfl, rfl, rfl, rfl, by simp [grow, World.drewN], fun j hj => by rw [heap_grow_old _ _ (by simpa [World.drewN] using hj)]; rfl⟩
theorem toldZ_len (n : Int) (h0 : -9223372036854775808 ≤ n) (h1 : n ≤ 9223372036854775807) : (toldZ n).length ≤ 65 := by
  unfold toldZ
  split
  · exact Nat.le_trans (digs_len 10 (by decide) 64 n.toNat (Nat.lt_of_lt_of_le (by omega) (Nat.pow_le_pow_left (show 2 ≤ 10 by decide) 64)) (by decide)) (by decide)
  · rw [List.length_cons]
    have := digs_len 10 (by decide) 64 (-n).toNat (Nat.lt_of_lt_of_le (by omega) (Nat.pow_le_pow_left (show 2 ≤ 10 by decide) 64)) (by decide)
    omega
end Go.Proofs.YtecancnojdifaaaDoor
