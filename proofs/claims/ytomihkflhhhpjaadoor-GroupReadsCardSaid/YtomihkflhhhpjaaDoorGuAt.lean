/- strconv.Atoi of one to three digits. -/
import Derived.Test.YtomihkflhhhpjaaDoorGuMt
import Derived.Lib.Strings
import Derived.Lib.Walk
import Derived.Lib.ConvBytes
import Derived.Lib.Atoi
import Derived.Lib.ItoaWalk
import Derived.Lib.Hide
import Derived.Lib.UnsafeStr
import Derived.Laws.Strings3
import Derived.WalkKit
import Derived.BigCall
import Derived.BigGuard
namespace Go.Proofs.YtomihkflhhhpjaaDoor
open Go.RowKit
set_option linter.unusedVariables false
set_option linter.unusedSimpArgs false
def dgB (c : UInt8) : Bool := decide (48 ≤ c.toNat ∧ c.toNat ≤ 57)
def dgV (l : List UInt8) : Nat := l.foldl (fun n b => n * 10 + (b.toNat - 48)) 0
theorem sget9 (s : ByteArray) (k : Nat) (h : k < s.size) : s.data.toList[k]? = some s[k] := by
  rw [Array.getElem?_toList]; exact Array.getElem?_eq_getElem h
theorem dgB_val {b : UInt8} (h : dgB b = true) : Lib.digitVal b = some (b.toNat - 48) := by
  have : 48 ≤ b.toNat ∧ b.toNat ≤ 57 := by simpa [dgB] using h
  unfold Lib.digitVal; rw [if_pos this]
theorem dec_of : ∀ (l : List UInt8) (n : Nat), (∀ b ∈ l, dgB b = true) → Lib.decFrom n l = some (l.foldl (fun n b => n * 10 + (b.toNat - 48)) n)
  | [], n, _ => rfl
  | b :: r, n, h => by
    rw [Lib.decFrom, dgB_val (h b (by simp))]
    exact dec_of r _ (fun c hc => h c (by simp [hc]))
set_option maxHeartbeats 6400000 in
set_option maxRecDepth 100000 in
theorem atoi_in (s : ByteArray) (w : World) (h0 : 0 < s.size) (h4 : s.size ≤ 4) (hd : ∀ b ∈ s.data.toList, dgB b = true) :
    Calls Tryd.prog 74 #[.string s] w fun e w' => e = .returned (.tuple #[.int .i64 (dgV s.data.toList : Nat), .nilIface]) ∧ Below w.heap.size w w' := by
  have hm : Lib.decFrom 0 s.data.toList = some (dgV s.data.toList) := dec_of _ _ hd
  have hb0 : dgB s[0] = true := hd _ (List.mem_of_getElem? (sget9 s 0 h0))
  obtain ⟨b0, hs0⟩ : ∃ b0, s[0] = b0 := ⟨_, rfl⟩
  rw [hs0] at hb0
  have hb1 : 48 ≤ b0.toNat ∧ b0.toNat ≤ 57 := by simpa [dgB] using hb0
  have h45 : ((b0.toNat : Int) == 45) = false := beq_eq_false_iff_ne.2 fun e => by omega
  have h43 : ((b0.toNat : Int) == 43) = false := beq_eq_false_iff_ne.2 fun e => by omega
  have hcv := Lib.run_convert_string_bytes (P := Tryd.prog) w 9 59 5 s (u := .string) (by kernel_rfl) (by kernel_rfl) (by kernel_rfl)
  have hB : ∀ j, j < s.size → (Lib.bytesWorld w 5 s).cell? ⟨w.heap.size, j, none⟩ = some (.int .u8 (s.data.toList.getD j 0).toNat) := fun j hj => Lib.bytesWorld_cell w 5 s j hj
  have hbe : Below w.heap.size w (Lib.bytesWorld w 5 s) := by unfold Lib.bytesWorld; exact Lib.below_freeze ((below_drewN (Below.refl _ _) 1).alloc (Nat.le_refl _) _) (Nat.le_refl _) _
  obtain ⟨W1, hW1⟩ : ∃ W1, W1 = Lib.bytesWorld w 5 s := ⟨_, rfl⟩
  rw [← hW1] at hcv hB hbe
  have HB := hide hB
  have HBE := hide hbe
  have hm18 := Lib.decFrom_lt18 hm (by rw [← Lib.size_eq]; omega)
  obtain ⟨m, hmm⟩ : ∃ m, dgV s.data.toList = m := ⟨_, rfl⟩
  rw [hmm] at hm hm18 ⊢
  have HM := hide hm
  clear hW1 hB hm hmm hd hb0 hbe
  go_enter Tryd.func74, Tryd.ntmps74
  go_wp2
  go_loop [49, 6] (fun vi vn => ∃ (k acc : Nat), k ≤ s.size ∧ vi = .int .i64 k ∧ vn = .int .i64 acc ∧ Hid (Lib.decFrom 0 (s.data.toList.take k) = some acc)) (fun vi _ => s.size - (RowKit.intOf vi).toNat)
  case atStart => exact ⟨0, 0, Nat.zero_le _, rfl, rfl, hide rfl⟩
  case round =>
    obtain ⟨k, acc, hk, rfl, rfl, hacc⟩ := hrel
    by_cases hkn : k < s.size
    · obtain ⟨x, hx⟩ : ∃ x, x = s.data.toList.getD k 0 := ⟨_, rfl⟩
      have hxk : s.data.toList[k]? = some x := by
        rw [hx, List.getD, List.getElem?_eq_getElem (by rw [← Lib.size_eq]; exact hkn)]
        rfl
      have hc1 : W1.cell? ⟨w.heap.size, k, none⟩ = some (.int .u8 x.toNat) := by rw [hx]; exact HB.out k hkn
      obtain ⟨dv, hdv⟩ := Lib.digit_of_decFrom _ 0 m HM.out k x hxk
      obtain ⟨h48, h57, hde⟩ := Lib.digitVal_eq hdv
      have hlt := Lib.decFrom_take_lt hacc.out (by omega)
      have Hxk := hide hxk
      have Hdv := hide hdv
      clear hx hxk hdv
      go_wp2
      go_round
      case rel => exact ⟨k + 1, acc * 10 + dv, by omega, by go_num, by first | go_num | (congr 1; omega), hide (Lib.decFrom_take _ k 0 acc x dv hacc.out Hxk.out Hdv.out)⟩
      case measure => simp [RowKit.intOf]; omega
    · have hke : k = s.size := by omega
      subst hke
      have hfin : acc = m := by
        have h1 := hacc.out
        rw [List.take_of_length_le (by rw [← Lib.size_eq]; exact Nat.le_refl _), HM.out] at h1
        exact (Option.some.inj h1).symm
      subst hfin
      go_wp2
      go_ret2
      exact ⟨rfl, HBE.out⟩
set_option maxRecDepth 100000 in
theorem atoi_any (s : ByteArray) (w : World) (h0 : 0 < s.size) (h4 : s.size ≤ 4) (hd : ∀ b ∈ s.data.toList, dgB b = true) :
    Calls Tryd.prog 55 #[.string s] w fun e w' => e = .returned (.tuple #[.int .i64 (dgV s.data.toList : Nat), .nilIface]) ∧ Below w.heap.size w w' := by
  have HC := hide (fun W => atoi_in s W h0 h4 hd)
  clear hd
  go_enter Tryd.func55, Tryd.ntmps55
  go_wp2_with (go_at_call 74; refine (HC.out _).mono ?_; rintro e w' ⟨rfl, hw'⟩; have HW := hide hw'; clear hw')
  go_ret2
  exact ⟨rfl, HW.out⟩
end Go.Proofs.YtomihkflhhhpjaaDoor
