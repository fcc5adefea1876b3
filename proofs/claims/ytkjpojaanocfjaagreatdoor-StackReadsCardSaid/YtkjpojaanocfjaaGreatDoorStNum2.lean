/- Numbers in lines: plain law; internal/strconv.ParseUint and ParseInt of digits, at base 10 and 16 (printed by gen_sn.py). -/
import Derived.Test.YtkjpojaanocfjaaGreatDoorBytes
import Derived.Test.YtkjpojaanocfjaaGreatDoorMem
import Derived.Test.YtkjpojaanocfjaaGreatDoorOwnMore
import Derived.Lib.ConvBytes
import Derived.BigQuiet
namespace Go.Proofs.YtkjpojaanocfjaaGreatDoor
open Go.RowKit
set_option linter.unusedVariables false
set_option linter.unusedSimpArgs false
/-- A digit of a base, its value; the number. -/
def dgt (b : Nat) (c : UInt8) : Bool := decide (48 ≤ c.toNat ∧ c.toNat ≤ 57) || (decide (b = 16) && decide (97 ≤ c.toNat ∧ c.toNat ≤ 102))
def dgtV (c : UInt8) : Nat := if c.toNat ≤ 57 then c.toNat - 48 else c.toNat - 87
def numV (b : Nat) (l : List UInt8) : Nat := l.foldl (fun n c => n * b + dgtV c) 0
theorem numV_snoc (b : Nat) (l : List UInt8) (c : UInt8) : numV b (l ++ [c]) = numV b l * b + dgtV c := by unfold numV; rw [List.foldl_append]; rfl
theorem dgtV_lt {b : Nat} {c : UInt8} (hb : b = 10 ∨ b = 16) (h : dgt b c = true) : dgtV c < b := by
  unfold dgt at h
  unfold dgtV
  rcases hb with rfl | rfl
  · simp at h; split <;> omega
  · simp at h; split <;> omega
theorem numV_lt {b : Nat} (hb : b = 10 ∨ b = 16) : ∀ (k : Nat) (l : List UInt8), k ≤ l.length → (∀ c ∈ l, dgt b c = true) → numV b (l.take k) < 16 ^ k
  | 0, l, _, _ => by simp [numV]
  | k + 1, l, hk, h => by
    have hlt : k < l.length := by omega
    have h1 := numV_lt hb k l (by omega) h
    have h2 := dgtV_lt hb (h l[k] (List.getElem_mem hlt))
    rw [List.take_succ_eq_append_getElem hlt, numV_snoc, Nat.pow_succ]
    have h3 : numV b (l.take k) * b ≤ numV b (l.take k) * 16 := Nat.mul_le_mul_left _ (by rcases hb with rfl | rfl <;> omega)
    rcases hb with rfl | rfl <;> omega
theorem numV_12 {b : Nat} (hb : b = 10 ∨ b = 16) {l : List UInt8} {k : Nat} (hk : k ≤ l.length) (h12 : l.length ≤ 12) (h : ∀ c ∈ l, dgt b c = true) : numV b (l.take k) < 281474976710656 :=
  Nat.lt_of_lt_of_le (numV_lt hb k l hk h) (Nat.le_trans (Nat.pow_le_pow_right (by decide) (by omega : k ≤ 12)) (by decide))
theorem lower_hex (c : Int) (w : World) (h1 : 97 ≤ c) (h2 : c ≤ 102) : Calls Tryz.prog 100 #[.int .u8 c] w fun e w' => e = .returned (.int .u8 c) ∧ w' = w := by
  rcases (show c = 97 ∨ c = 98 ∨ c = 99 ∨ c = 100 ∨ c = 101 ∨ c = 102 by omega) with rfl | rfl | rfl | rfl | rfl | rfl <;>
    (go_enter Tryz.func100, Tryz.ntmps100
     go_wp2_with (fail)
     go_ret
     exact ⟨rfl, rfl⟩)
theorem not_empty {s : ByteArray} (h1 : 1 ≤ s.size) : s.toList.isEmpty = false := by
  rw [ByteArray.toList_eq]
  cases hs : s.data.toList with
  | nil => exact absurd (show s.data.size = 0 by rw [← Array.length_toList, hs]; rfl) (by show s.size ≠ 0; omega)
  | cons a l => rfl
set_option maxRecDepth 100000 in
set_option maxHeartbeats 16000000 in
theorem ParseUint_10 (s : ByteArray) (w : World) (h1 : 1 ≤ s.size) (h12 : s.size ≤ 12) (hd : ∀ c ∈ s.data.toList, dgt 10 c = true) :
    Calls Tryz.prog 92 #[.string s, .int .i64 10, .int .i64 64] w fun e w' => e = .returned (.tuple #[.int .u64 (numV 10 s.data.toList : Nat), .nilIface]) ∧ Below w.heap.size w w' := by
  have hemp := not_empty h1
  have hcv := Lib.run_convert_string_bytes (P := Tryz.prog) w 9 116 5 s (u := .string) Tryz.underlying9 Tryz.underlying116 Tryz.underlying5
  have hBy : ∀ j, j < s.size → (Lib.bytesWorld w 5 s).cell? ⟨w.heap.size, j, none⟩ = some (.int .u8 (s.data.toList.getD j 0).toNat) := fun j hj => Lib.bytesWorld_cell w 5 s j hj
  have hBW : Below w.heap.size w (Lib.bytesWorld w 5 s) := ⟨by simp [Lib.bytesWorld, World.freeze, World.alloc, World.drew, -World.alloc_eq, -World.drew_eq], by simp [Lib.bytesWorld, World.freeze, World.alloc, World.drew, -World.alloc_eq, -World.drew_eq], by simp [Lib.bytesWorld, World.freeze, World.alloc, World.drew, -World.alloc_eq, -World.drew_eq], by rw [Lib.bytesWorld_size]; omega, fun j hj => Lib.bytesWorld_at_old w _ s j hj⟩
  obtain ⟨W1, hW1⟩ : ∃ W1, Lib.bytesWorld w 5 s = W1 := ⟨_, rfl⟩
  rw [hW1] at hcv hBy hBW
  have HBY := hide hBy
  have HBW := hide hBW
  have HD := hide hd
  have hsl : s.data.toList.length = s.size := by rw [Array.length_toList]; rfl
  have HSL := hide hsl
  have hmv : IntKind.u64.wrap (IntKind.u64.wrap 18446744073709551616 - 1) = 18446744073709551615 := by
    rw [IntKind.wrap_u64, IntKind.wrap_u64]; decide
  clear hBy hBW hW1 hd hsl
  go_enter Tryz.func92, Tryz.ntmps92
  go_wp2_with (fail)
  go_loopw [12, 13, 101] (fun vu vn vi wr => ∃ (k : Nat) (a : Int), vu = .bool false ∧ k ≤ s.size ∧ vi = .int .i64 k ∧ vn = .int .u64 a ∧ a = ((numV 10 (s.data.toList.take k) : Nat) : Int) ∧ wr = W1) (fun _ _ vi _ => s.size - (intOf vi).toNat)
  case atStart => exact ⟨0, 0, rfl, by omega, rfl, rfl, rfl, rfl⟩
  case round =>
    obtain ⟨k, a, rfl, hk, rfl, rfl, ha, rfl⟩ := hrel
    have HA := hide ha
    have HB := hide (show True from trivial)
    have ha1 : 0 ≤ a ∧ a < 281474976710656 := by have := numV_12 (b := 10) (by decide) (l := s.data.toList) (k := k) (by rw [HSL.out]; exact hk) (by rw [HSL.out]; exact h12) HD.out; omega
    obtain ⟨a0, a1⟩ := ha1
    clear ha
    by_cases hlt : k < s.size
    · have hlt2 : k < s.data.toList.length := by rw [HSL.out]; exact hlt
      have hcc := HBY.out k hlt
      have hget : s.data.toList.getD k 0 = s.data.toList[k] := by simp [List.getD, hlt]
      rw [hget] at hcc
      obtain ⟨C, hC⟩ : ∃ C, s.data.toList[k] = C := ⟨_, rfl⟩
      have HDC := hide (show dgt 10 C = true from hC ▸ HD.out _ (List.getElem_mem hlt2))
      have HT := hide (show s.data.toList.take (k + 1) = s.data.toList.take k ++ [C] by rw [List.take_succ_eq_append_getElem hlt2, hC])
      rw [hC] at hcc
      obtain ⟨c, hcI⟩ : ∃ c : Int, (C.toNat : Int) = c := ⟨_, rfl⟩
      rw [hcI] at hcc
      have c256 : 0 ≤ c ∧ c < 256 := by have := C.toNat_lt; omega
      clear hget hC
      by_cases hdg : 48 ≤ c ∧ c ≤ 57
      · obtain ⟨t0, t1⟩ := hdg
        have t2 : (c == 95) = false := by rw [beq_eq_false_iff_ne]; omega
        have hv : (dgtV C : Int) = c - 48 := by unfold dgtV; rw [if_pos (by omega)]; omega
        skip
        obtain ⟨d, hd0⟩ : ∃ d : Int, c - 48 = d := ⟨_, rfl⟩
        obtain ⟨m, hm⟩ : ∃ m : Int, a * 10 = m := ⟨_, rfl⟩
        obtain ⟨n1, hn1⟩ : ∃ n1 : Int, m + d = n1 := ⟨_, rfl⟩
        have hdB : d < 10 := by have := dgtV_lt (b := 10) (by decide) HDC.out; omega
        have hd1 : 0 ≤ d := by omega
        skip
        have q1 : IntKind.u8.wrap (c - 48) = d := by rw [IntKind.wrap_u8]; omega
        have q3 : IntKind.u64.wrap d = d := by rw [IntKind.wrap_u64]; omega
        have q4 : IntKind.u64.wrap (a * 10) = m := by rw [IntKind.wrap_u64]; omega
        have q5 : IntKind.u64.wrap (m + d) = n1 := by rw [IntKind.wrap_u64]; omega
        have r1 : decide (10 ≤ d) = false := by simp; omega
        have r2 : decide (1844674407370955162 ≤ a) = false := by simp; omega
        have r3 : decide (n1 < m) = false := by simp; omega
        have r4 : decide (18446744073709551615 < n1) = false := by simp; omega
        have HN := hide (show n1 = ((numV 10 (s.data.toList.take (k + 1)) : Nat) : Int) by rw [HT.out, numV_snoc, ← hn1, ← hm, ← hd0, ← hv, HA.out]; simp)
        have HC1 := hide hd0
        clear hv hd0 hm hn1 hdB
        go_wp2_with (fail)
        go_roundw
        case rel => exact ⟨k + 1, n1, rfl, by omega, by go_num, rfl, HN.out, by first | rfl | trivial⟩
        case measure => simp [intOf]; omega
      · exact absurd HDC.out (by unfold dgt; simp; omega)
    · obtain rfl : k = s.size := by omega
      have HE := hide (show a = ((numV 10 s.data.toList : Nat) : Int) by rw [HA.out, List.take_of_length_le (by rw [HSL.out]; exact Nat.le_refl _)])
      go_wp2_with (fail)
      go_ret2
      exact ⟨by rw [HE.out]; rfl, HBW.out⟩
set_option maxHeartbeats 4000000 in
theorem ParseIntI_10 (s : ByteArray) (w : World) (h1 : 1 ≤ s.size) (h12 : s.size ≤ 12) (hd : ∀ c ∈ s.data.toList, dgt 10 c = true) :
    Calls Tryz.prog 82 #[.string s, .int .i64 10, .int .i64 64] w fun e w' => e = .returned (.tuple #[.int .i64 (numV 10 s.data.toList : Nat), .nilIface]) ∧ Below w.heap.size w w' := by
  have hemp := not_empty h1
  have HU := hide (ParseUint_10 s w h1 h12 hd)
  have hsl : s.data.toList.length = s.size := by rw [Array.length_toList]; rfl
  have hb := numV_12 (b := 10) (by decide) (l := s.data.toList) (k := s.data.toList.length) (Nat.le_refl _) (by omega) hd
  rw [List.take_length] at hb
  have hd0 := hd s[0] (List.mem_of_getElem? (i := 0) (by rw [List.getElem?_eq_getElem (by omega)]; rfl))
  have e43 : ((s[0].toNat : Int) == 43) = false := by unfold dgt at hd0; simp at hd0; rw [beq_eq_false_iff_ne]; omega
  have e45 : ((s[0].toNat : Int) == 45) = false := by unfold dgt at hd0; simp at hd0; rw [beq_eq_false_iff_ne]; omega
  obtain ⟨n, hn⟩ : ∃ n : Int, ((numV 10 s.data.toList : Nat) : Int) = n := ⟨_, rfl⟩
  rw [hn] at HU ⊢
  have hn0 : 0 ≤ n := by omega
  have hn1 : n < 281474976710656 := by omega
  have q1 : IntKind.i64.wrap n = n := IntWalk.i64_in _ (by omega)
  have r1 : decide (9223372036854775808 ≤ n) = false := by simp; omega
  clear hd hd0 hsl hb hn
  go_enter Tryz.func82, Tryz.ntmps82
  go_wp2_with (go_at_call 92; refine HU.out.mono ?_; rintro e w1 ⟨rfl, hw1⟩)
  go_ret2
  exact ⟨rfl, hw1⟩
set_option maxHeartbeats 4000000 in
theorem ParseInt_10 (s : ByteArray) (w : World) (h1 : 1 ≤ s.size) (h12 : s.size ≤ 12) (hd : ∀ c ∈ s.data.toList, dgt 10 c = true) :
    Calls Tryz.prog 64 #[.string s, .int .i64 10, .int .i64 64] w fun e w' => e = .returned (.tuple #[.int .i64 (numV 10 s.data.toList : Nat), .nilIface]) ∧ Below w.heap.size w w' := by
  have HU := hide (ParseIntI_10 s w h1 h12 hd)
  clear hd
  go_enter Tryz.func64, Tryz.ntmps64
  go_wp2_with (go_at_call 82; refine HU.out.mono ?_; rintro e w1 ⟨rfl, hw1⟩)
  go_ret2
  exact ⟨rfl, hw1⟩
set_option maxRecDepth 100000 in
set_option maxHeartbeats 16000000 in
theorem ParseUint_16 (s : ByteArray) (w : World) (h1 : 1 ≤ s.size) (h12 : s.size ≤ 12) (hd : ∀ c ∈ s.data.toList, dgt 16 c = true) :
    Calls Tryz.prog 92 #[.string s, .int .i64 16, .int .i64 64] w fun e w' => e = .returned (.tuple #[.int .u64 (numV 16 s.data.toList : Nat), .nilIface]) ∧ Below w.heap.size w w' := by
  have hemp := not_empty h1
  have hcv := Lib.run_convert_string_bytes (P := Tryz.prog) w 9 116 5 s (u := .string) Tryz.underlying9 Tryz.underlying116 Tryz.underlying5
  have hBy : ∀ j, j < s.size → (Lib.bytesWorld w 5 s).cell? ⟨w.heap.size, j, none⟩ = some (.int .u8 (s.data.toList.getD j 0).toNat) := fun j hj => Lib.bytesWorld_cell w 5 s j hj
  have hBW : Below w.heap.size w (Lib.bytesWorld w 5 s) := ⟨by simp [Lib.bytesWorld, World.freeze, World.alloc, World.drew, -World.alloc_eq, -World.drew_eq], by simp [Lib.bytesWorld, World.freeze, World.alloc, World.drew, -World.alloc_eq, -World.drew_eq], by simp [Lib.bytesWorld, World.freeze, World.alloc, World.drew, -World.alloc_eq, -World.drew_eq], by rw [Lib.bytesWorld_size]; omega, fun j hj => Lib.bytesWorld_at_old w _ s j hj⟩
  obtain ⟨W1, hW1⟩ : ∃ W1, Lib.bytesWorld w 5 s = W1 := ⟨_, rfl⟩
  rw [hW1] at hcv hBy hBW
  have HBY := hide hBy
  have HBW := hide hBW
  have HD := hide hd
  have hsl : s.data.toList.length = s.size := by rw [Array.length_toList]; rfl
  have HSL := hide hsl
  have hmv : IntKind.u64.wrap (IntKind.u64.wrap 18446744073709551616 - 1) = 18446744073709551615 := by
    rw [IntKind.wrap_u64, IntKind.wrap_u64]; decide
  clear hBy hBW hW1 hd hsl
  go_enter Tryz.func92, Tryz.ntmps92
  go_wp2_with (fail)
  go_loopw [12, 13, 101] (fun vu vn vi wr => ∃ (k : Nat) (a : Int), vu = .bool false ∧ k ≤ s.size ∧ vi = .int .i64 k ∧ vn = .int .u64 a ∧ a = ((numV 16 (s.data.toList.take k) : Nat) : Int) ∧ wr = W1) (fun _ _ vi _ => s.size - (intOf vi).toNat)
  case atStart => exact ⟨0, 0, rfl, by omega, rfl, rfl, rfl, rfl⟩
  case round =>
    obtain ⟨k, a, rfl, hk, rfl, rfl, ha, rfl⟩ := hrel
    have HA := hide ha
    have HB := hide (show True from trivial)
    have ha1 : 0 ≤ a ∧ a < 281474976710656 := by have := numV_12 (b := 16) (by decide) (l := s.data.toList) (k := k) (by rw [HSL.out]; exact hk) (by rw [HSL.out]; exact h12) HD.out; omega
    obtain ⟨a0, a1⟩ := ha1
    clear ha
    by_cases hlt : k < s.size
    · have hlt2 : k < s.data.toList.length := by rw [HSL.out]; exact hlt
      have hcc := HBY.out k hlt
      have hget : s.data.toList.getD k 0 = s.data.toList[k] := by simp [List.getD, hlt]
      rw [hget] at hcc
      obtain ⟨C, hC⟩ : ∃ C, s.data.toList[k] = C := ⟨_, rfl⟩
      have HDC := hide (show dgt 16 C = true from hC ▸ HD.out _ (List.getElem_mem hlt2))
      have HT := hide (show s.data.toList.take (k + 1) = s.data.toList.take k ++ [C] by rw [List.take_succ_eq_append_getElem hlt2, hC])
      rw [hC] at hcc
      obtain ⟨c, hcI⟩ : ∃ c : Int, (C.toNat : Int) = c := ⟨_, rfl⟩
      rw [hcI] at hcc
      have c256 : 0 ≤ c ∧ c < 256 := by have := C.toNat_lt; omega
      clear hget hC
      by_cases hdg : 48 ≤ c ∧ c ≤ 57
      · obtain ⟨t0, t1⟩ := hdg
        have t2 : (c == 95) = false := by rw [beq_eq_false_iff_ne]; omega
        have hv : (dgtV C : Int) = c - 48 := by unfold dgtV; rw [if_pos (by omega)]; omega
        skip
        obtain ⟨d, hd0⟩ : ∃ d : Int, c - 48 = d := ⟨_, rfl⟩
        obtain ⟨m, hm⟩ : ∃ m : Int, a * 16 = m := ⟨_, rfl⟩
        obtain ⟨n1, hn1⟩ : ∃ n1 : Int, m + d = n1 := ⟨_, rfl⟩
        have hdB : d < 16 := by have := dgtV_lt (b := 16) (by decide) HDC.out; omega
        have hd1 : 0 ≤ d := by omega
        skip
        have q1 : IntKind.u8.wrap (c - 48) = d := by rw [IntKind.wrap_u8]; omega
        have q3 : IntKind.u64.wrap d = d := by rw [IntKind.wrap_u64]; omega
        have q4 : IntKind.u64.wrap (a * 16) = m := by rw [IntKind.wrap_u64]; omega
        have q5 : IntKind.u64.wrap (m + d) = n1 := by rw [IntKind.wrap_u64]; omega
        have r1 : decide (16 ≤ d) = false := by simp; omega
        have r2 : decide (1152921504606846976 ≤ a) = false := by simp; omega
        have r3 : decide (n1 < m) = false := by simp; omega
        have r4 : decide (18446744073709551615 < n1) = false := by simp; omega
        have HN := hide (show n1 = ((numV 16 (s.data.toList.take (k + 1)) : Nat) : Int) by rw [HT.out, numV_snoc, ← hn1, ← hm, ← hd0, ← hv, HA.out]; simp)
        have HC1 := hide hd0
        clear hv hd0 hm hn1 hdB
        go_wp2_with (fail)
        go_roundw
        case rel => exact ⟨k + 1, n1, rfl, by omega, by go_num, rfl, HN.out, by first | rfl | trivial⟩
        case measure => simp [intOf]; omega
      · have hc1 : 97 ≤ c ∧ c ≤ 102 := by have := HDC.out; unfold dgt at this; simp at this; omega
        have t1 : decide (c ≤ 57) = false := by simp; omega
        have t2 : (c == 95) = false := by rw [beq_eq_false_iff_ne]; omega
        have t3 : 97 ≤ c := hc1.1
        have t4 : c ≤ 122 := by omega
        have t5 : 48 ≤ c := by omega
        have hv : (dgtV C : Int) = c - 87 := by unfold dgtV; rw [if_neg (by omega)]; omega
        have HLO := hide (fun W => lower_hex c W (by omega) (by omega))
        obtain ⟨d, hd0⟩ : ∃ d : Int, c - 87 = d := ⟨_, rfl⟩
        obtain ⟨m, hm⟩ : ∃ m : Int, a * 16 = m := ⟨_, rfl⟩
        obtain ⟨n1, hn1⟩ : ∃ n1 : Int, m + d = n1 := ⟨_, rfl⟩
        have hdB : d < 16 := by have := dgtV_lt (b := 16) (by decide) HDC.out; omega
        have hd1 : 0 ≤ d := by omega
        have q1 : IntKind.u8.wrap (c - 97) = c - 97 := by rw [IntKind.wrap_u8]; omega
        have q2 : IntKind.u8.wrap (c - 97 + 10) = d := by rw [IntKind.wrap_u8]; omega
        have q3 : IntKind.u64.wrap d = d := by rw [IntKind.wrap_u64]; omega
        have q4 : IntKind.u64.wrap (a * 16) = m := by rw [IntKind.wrap_u64]; omega
        have q5 : IntKind.u64.wrap (m + d) = n1 := by rw [IntKind.wrap_u64]; omega
        have r1 : decide (16 ≤ d) = false := by simp; omega
        have r2 : decide (1152921504606846976 ≤ a) = false := by simp; omega
        have r3 : decide (n1 < m) = false := by simp; omega
        have r4 : decide (18446744073709551615 < n1) = false := by simp; omega
        have HN := hide (show n1 = ((numV 16 (s.data.toList.take (k + 1)) : Nat) : Int) by rw [HT.out, numV_snoc, ← hn1, ← hm, ← hd0, ← hv, HA.out]; simp)
        have HC1 := hide hd0
        clear hv hd0 hm hn1 hdB
        go_wp2_with ((go_at_call 100; refine (HLO.out _).mono ?_; rintro e w' ⟨rfl, rfl⟩))
        go_roundw
        case rel => exact ⟨k + 1, n1, rfl, by omega, by go_num, rfl, HN.out, by first | rfl | trivial⟩
        case measure => simp [intOf]; omega
    · obtain rfl : k = s.size := by omega
      have HE := hide (show a = ((numV 16 s.data.toList : Nat) : Int) by rw [HA.out, List.take_of_length_le (by rw [HSL.out]; exact Nat.le_refl _)])
      go_wp2_with (fail)
      go_ret2
      exact ⟨by rw [HE.out]; rfl, HBW.out⟩
set_option maxHeartbeats 4000000 in
theorem ParseIntI_16 (s : ByteArray) (w : World) (h1 : 1 ≤ s.size) (h12 : s.size ≤ 12) (hd : ∀ c ∈ s.data.toList, dgt 16 c = true) :
    Calls Tryz.prog 82 #[.string s, .int .i64 16, .int .i64 64] w fun e w' => e = .returned (.tuple #[.int .i64 (numV 16 s.data.toList : Nat), .nilIface]) ∧ Below w.heap.size w w' := by
  have hemp := not_empty h1
  have HU := hide (ParseUint_16 s w h1 h12 hd)
  have hsl : s.data.toList.length = s.size := by rw [Array.length_toList]; rfl
  have hb := numV_12 (b := 16) (by decide) (l := s.data.toList) (k := s.data.toList.length) (Nat.le_refl _) (by omega) hd
  rw [List.take_length] at hb
  have hd0 := hd s[0] (List.mem_of_getElem? (i := 0) (by rw [List.getElem?_eq_getElem (by omega)]; rfl))
  have e43 : ((s[0].toNat : Int) == 43) = false := by unfold dgt at hd0; simp at hd0; rw [beq_eq_false_iff_ne]; omega
  have e45 : ((s[0].toNat : Int) == 45) = false := by unfold dgt at hd0; simp at hd0; rw [beq_eq_false_iff_ne]; omega
  obtain ⟨n, hn⟩ : ∃ n : Int, ((numV 16 s.data.toList : Nat) : Int) = n := ⟨_, rfl⟩
  rw [hn] at HU ⊢
  have hn0 : 0 ≤ n := by omega
  have hn1 : n < 281474976710656 := by omega
  have q1 : IntKind.i64.wrap n = n := IntWalk.i64_in _ (by omega)
  have r1 : decide (9223372036854775808 ≤ n) = false := by simp; omega
  clear hd hd0 hsl hb hn
  go_enter Tryz.func82, Tryz.ntmps82
  go_wp2_with (go_at_call 92; refine HU.out.mono ?_; rintro e w1 ⟨rfl, hw1⟩)
  go_ret2
  exact ⟨rfl, hw1⟩
set_option maxHeartbeats 4000000 in
theorem ParseInt_16 (s : ByteArray) (w : World) (h1 : 1 ≤ s.size) (h12 : s.size ≤ 12) (hd : ∀ c ∈ s.data.toList, dgt 16 c = true) :
    Calls Tryz.prog 64 #[.string s, .int .i64 16, .int .i64 64] w fun e w' => e = .returned (.tuple #[.int .i64 (numV 16 s.data.toList : Nat), .nilIface]) ∧ Below w.heap.size w w' := by
  have HU := hide (ParseIntI_16 s w h1 h12 hd)
  clear hd
  go_enter Tryz.func64, Tryz.ntmps64
  go_wp2_with (go_at_call 82; refine HU.out.mono ?_; rintro e w1 ⟨rfl, hw1⟩)
  go_ret2
  exact ⟨rfl, hw1⟩
end Go.Proofs.YtkjpojaanocfjaaGreatDoor
