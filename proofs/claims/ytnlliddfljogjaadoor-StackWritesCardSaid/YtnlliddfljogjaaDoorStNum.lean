/- Walks of the reference's inBase and Told; strconv.Itoa at a number that is not negative. -/
import Derived.Test.YtnlliddfljogjaaDoorStLineL
import Derived.Test.YtnlliddfljogjaaDoorFam
import Derived.Test.YtnlliddfljogjaaDoorShelf
import Derived.BigQuiet
namespace Go.Proofs.YtnlliddfljogjaaDoor
open Go.RowKit Go.Sort
set_option linter.unusedVariables false
def digB : ByteArray := ⟨#[48, 49, 50, 51, 52, 53, 54, 55, 56, 57, 97, 98, 99, 100, 101, 102]⟩
theorem digB_at : ∀ k, k < 16 → (digB.extract k (k + 1)).data.toList = [hexc k] := by decide +kernel
theorem hexc_of {u b : Nat} (hb : b ≤ 16) (h2 : 0 < b) : (digB.extract (u % b) (u % b + 1)).data.toList = [hexc (u % b)] := digB_at _ (Nat.lt_of_lt_of_le (Nat.mod_lt _ h2) hb)
theorem bytes_of {x : ByteArray} {l : List UInt8} (h : x.data.toList = l) : x = ⟨l.toArray⟩ := by
  rw [← h]
theorem app_toList (a b : ByteArray) : (a ++ b).data.toList = a.data.toList ++ b.data.toList := by rw [ByteArray.data_append, Array.toList_append]
set_option maxRecDepth 100000 in
set_option maxHeartbeats 2000000 in
theorem inBase_any (u b : Nat) (w : World) (hb2 : 2 ≤ b) (hb : b ≤ 16) (hu : u < 9223372036854775808) :
    Calls Tryd.prog 34 #[.int .i64 u, .int .i64 b] w fun e w' => e = .returned (.string ⟨(digs b u).toArray⟩) ∧ Below w.heap.size w w' := by
  go_enter Tryd.func34, Tryd.ntmps34
  go_wp2_with (fail)
  go_loopw [0, 5] (fun a c wr => ∃ (v : Nat) (s : ByteArray), a = .int .i64 v ∧ c = .string s ∧ v ≤ u ∧ digs b v ++ s.data.toList = digs b u ∧ s.size + (digs b v).length = (digs b u).length ∧ Below w.heap.size w wr) (fun a _ _ => (intOf a).toNat)
  case atStart => exact ⟨u, ⟨#[]⟩, rfl, rfl, Nat.le_refl _, List.append_nil _, Nat.zero_add _, Below.refl _ _⟩
  case round =>
    obtain ⟨v, s, rfl, rfl, hv, heq, hsz, hB⟩ := hrel
    obtain ⟨r, hr⟩ : ∃ r, v % b = r := ⟨_, rfl⟩
    obtain ⟨q, hq⟩ : ∃ q, v / b = q := ⟨_, rfl⟩
    have hrb : r < b := by rw [← hr]; exact Nat.mod_lt _ (by omega)
    have hxc := digB_at r (by omega)
    have i1 : (v : Int).tmod (b : Int) = (r : Int) := by rw [← hr]; exact (Int.ofNat_tmod v b).symm
    have i2 : (v : Int).tdiv (b : Int) = (q : Int) := by rw [← hq]; exact (Int.ofNat_tdiv v b).symm
    have i3 : (v : Int) % (b : Int) = (r : Int) := by omega
    have i4 : (v : Int) / (b : Int) = (q : Int) := by rw [← hq]; exact (Int.natCast_ediv v b)
    have hlen : (digs b u).length ≤ 63 := digs_len b hb2 63 u (Nat.lt_of_lt_of_le (by omega) (Nat.pow_le_pow_left hb2 63)) (by omega)
    have hs63 : s.size ≤ 63 := by omega
    have hxs : (digB.extract r (r + 1)).size = 1 := by
      have h1 : (digB.extract r (r + 1)).data.toList.length = (digB.extract r (r + 1)).size := by rw [Array.length_toList]; rfl
      rw [← h1, hxc]; rfl
    unfold digB at hxc hxs
    by_cases hvb : v < b
    · have hq0 : q = 0 := by rw [← hq]; exact Nat.div_eq_of_lt hvb
      have E := hide (show hexc r :: s.data.toList = digs b u by
        rw [← heq, digs_small hvb, show r = v by rw [← hr]; exact Nat.mod_eq_of_lt hvb]; rfl)
      have HX := hide hxc
      subst hq0
      clear hxc heq hr hq hsz
      go_wp2_with (go_quiet (fail))
      go_ret
      exact ⟨congrArg (fun x => Ending.returned (Value.string x)) (bytes_of (by rw [app_toList, HX.out]; exact E.out)), below_drewN hB _⟩
    · have hq1 : 1 ≤ q := by rw [← hq]; exact (Nat.one_le_div_iff (by omega)).2 (by omega)
      have hqv : q < v := by rw [← hq]; exact Nat.div_lt_self (by omega) (by omega)
      have hd : digs b v = digs b q ++ [hexc r] := by rw [digs_big (by omega) hb2, hq, hr]
      have E := hide (show digs b q ++ (hexc r :: s.data.toList) = digs b u by rw [← heq, hd]; simp)
      have E3 := hide (show s.size + 1 + (digs b q).length = (digs b u).length by rw [← hsz, hd, List.length_append, List.length_singleton]; omega)
      have HX := hide hxc
      have HXS := hide hxs
      have hq2 : ¬ (q : Int) = 0 := by omega
      have hq3 : ((q : Int) == 0) = false := by simpa using hq2
      clear hxc heq hr hq hsz hd
      go_wp2_with (go_quiet (fail))
      go_roundw
      case rel => exact ⟨q, _ ++ s, rfl, rfl, by omega, by rw [app_toList, HX.out]; exact E.out, by rw [ByteArray.size_append, HXS.out]; have := E3.out; omega, below_drewN hB _⟩
      case measure => simp [intOf]; omega
/-- Told at a number that is not negative. -/
theorem Told_any (n : Int) (w : World) (h0 : 0 ≤ n) (h1 : n < 9223372036854775808) :
    Calls Tryd.prog 19 #[.int .i64 n] w fun e w' => e = .returned (.string ⟨(toldL n).toArray⟩) ∧ Below w.heap.size w w' := by
  obtain ⟨u, rfl⟩ := Int.eq_ofNat_of_zero_le h0
  have H := hide (fun W => inBase_any u 10 W (by decide) (by decide) (by omega))
  go_enter Tryd.func19, Tryd.ntmps19
  go_wp2_with (go_at_call 34; refine (H.out _).mono ?_; rintro e w1 ⟨rfl, hB1⟩)
  go_ret
  exact ⟨rfl, hB1⟩
/-- strconv.Itoa at a number that is not negative. -/
theorem Itoa_any (n : Int) (w : World) (h0 : 0 ≤ n) (h1 : n ≤ 9223372036854775807) (htab : Lib.TabIs Tryd.prog w "internal/strconv.uint64pow10" .u64 Lib.pow10Tab) :
    Calls Tryd.prog 30 #[.int .i64 n] w fun e w' => e = .returned (.string ⟨(toldL n).toArray⟩) ∧ Below w.heap.size w w' := by
  refine (Tryd.strconv_Itoa n (by omega) h1 w htab).mono ?_
  rintro e w' ⟨rfl, k, os, rfl⟩
  rw [itoa_told h0]
  exact ⟨rfl, rfl, rfl, rfl, by simp [grow, World.drewN], fun j hj => by rw [heap_grow_old _ _ (by simpa [World.drewN] using hj)]; rfl⟩
end Go.Proofs.YtnlliddfljogjaaDoor
