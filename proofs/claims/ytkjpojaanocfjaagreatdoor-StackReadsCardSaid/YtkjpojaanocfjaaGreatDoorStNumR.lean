/- Walks of both number's (printed by gen_sm2.py). -/
import Derived.Test.YtkjpojaanocfjaaGreatDoorStNum2
import Derived.Test.YtkjpojaanocfjaaGreatDoorFam
import Derived.Shelf.Strings.SlTrimAscii
import Derived.BigQuiet
namespace Go.Proofs.YtkjpojaanocfjaaGreatDoor
open Go.RowKit
set_option linter.unusedVariables false
set_option linter.unusedSimpArgs false
/-- A number in a line: of a base, with at most m digits. -/
def numR (b m : Nat) (s : ByteArray) : Option Nat :=
  if s.size = 0 ∨ m < s.size ∨ (1 < s.size ∧ s.data.toList[0]? = some 48) then none else if s.data.toList.all (dgt b) then some (numV b s.data.toList) else none
def numO (b m : Nat) (s : ByteArray) : Int := match numR b m s with | some n => (n : Int) | none => 0
def numK (b m : Nat) (s : ByteArray) : Bool := (numR b m s).isSome
theorem numR_no {b m : Nat} {s : ByteArray} (h : s.size = 0 ∨ m < s.size ∨ (1 < s.size ∧ s.data.toList[0]? = some 48)) : numO b m s = 0 ∧ numK b m s = false := by
  unfold numO numK numR; rw [if_pos h]; exact ⟨rfl, rfl⟩
theorem numR_bad {b m : Nat} {s : ByteArray} (h : ¬ (s.size = 0 ∨ m < s.size ∨ (1 < s.size ∧ s.data.toList[0]? = some 48))) (ha : s.data.toList.all (dgt b) = false) : numO b m s = 0 ∧ numK b m s = false := by
  unfold numO numK numR; rw [if_neg h, if_neg (by rw [ha]; decide)]; exact ⟨rfl, rfl⟩
theorem numR_ok {b m : Nat} {s : ByteArray} (h : ¬ (s.size = 0 ∨ m < s.size ∨ (1 < s.size ∧ s.data.toList[0]? = some 48))) (ha : s.data.toList.all (dgt b) = true) : numO b m s = (numV b s.data.toList : Nat) ∧ numK b m s = true := by
  unfold numO numK numR; rw [if_neg h, if_pos ha]; exact ⟨rfl, rfl⟩
theorem dw_nil_iff (p : UInt8 → Bool) : ∀ l : List UInt8, l.dropWhile p = [] ↔ l.all p = true
  | [] => by simp
  | c :: l => by
    rw [List.dropWhile_cons]
    cases h : p c
    · simp [h]
    · simp [h, dw_nil_iff p l]
theorem trimS_nil (l cs : List UInt8) : Lib.trimS l cs = [] ↔ l.all (fun c => cs.contains c) = true := by
  unfold Lib.trimS Lib.trimLeftS Lib.trimRightS
  rw [dw_nil_iff]
  constructor
  · intro h
    by_cases he : l.reverse.dropWhile (fun x => cs.contains x) = []
    · rw [dw_nil_iff, List.all_reverse] at he; exact he
    · exfalso
      cases hd : l.reverse.dropWhile (fun x => cs.contains x) with
      | nil => exact he hd
      | cons c r =>
        have h1 : cs.contains c = false := by
          have := List.head?_dropWhile_not (fun x => cs.contains x) l.reverse
          rw [hd] at this
          simpa using this
        rw [hd, List.all_reverse, List.all_cons, h1] at h
        simp at h
  · intro h
    rw [List.all_eq_true] at h ⊢
    intro x hx
    refine h x ?_
    have h1 : x ∈ l.reverse.dropWhile (fun x => cs.contains x) := by simpa using hx
    have h2 := (List.dropWhile_suffix (l := l.reverse) (fun x => cs.contains x)).subset h1
    simpa using h2
def dg16 : ByteArray := ⟨#[48, 49, 50, 51, 52, 53, 54, 55, 56, 57, 97, 98, 99, 100, 101, 102]⟩
theorem info_set : (Tryz.prog.info? 90).map (fun i => (i.zero, i.size)) = some (some (.agg (Array.replicate 256 (.bool false))), 256) := by kernel_rfl
theorem dg_has (b : Nat) (hb : b = 10 ∨ b = 16) (c : UInt8) : (dg16.extract 0 b).data.toList.contains c = dgt b c := by
  have h : ∀ n, n < 256 → (dg16.extract 0 10).data.toList.contains (UInt8.ofNat n) = dgt 10 (UInt8.ofNat n) ∧ (dg16.extract 0 16).data.toList.contains (UInt8.ofNat n) = dgt 16 (UInt8.ofNat n) := by decide +kernel
  have := h c.toNat (UInt8.toNat_lt c)
  rw [UInt8.ofNat_toNat] at this
  rcases hb with rfl | rfl
  · exact this.1
  · exact this.2
theorem trim_dg (b : Nat) (hb : b = 10 ∨ b = 16) (s : ByteArray) (w : World) (hs : s.size ≤ 9223372036854775807) :
    Calls Tryz.prog 63 #[.string s, .string (dg16.extract 0 b)] w fun e w' => e = .returned (.string ⟨(Lib.trimS s.data.toList (dg16.extract 0 b).data.toList).toArray⟩) ∧ Below w.heap.size w w' := by
  rcases hb with rfl | rfl
  · exact Any.strings_Trim_laid Tryz.lays160 info_set s _ w hs (by decide) (ascii_of_all (by decide +kernel))
  · exact Any.strings_Trim_laid Tryz.lays160 info_set s _ w hs (by decide) (ascii_of_all (by decide +kernel))
theorem trim_is {b : Nat} (hb : b = 10 ∨ b = 16) (s : ByteArray) : (Lib.trimS s.data.toList (dg16.extract 0 b).data.toList = []) ↔ s.data.toList.all (dgt b) = true := by
  rw [trimS_nil]
  have : (fun c => (dg16.extract 0 b).data.toList.contains c) = dgt b := funext fun c => dg_has b hb c
  rw [this]
set_option maxRecDepth 100000 in
set_option maxHeartbeats 4000000 in
theorem number_10 (s : ByteArray) (m : Nat) (w : World) (hm : m ≤ 12) (hs : s.size ≤ 4611686018427387904) :
    Calls Tryz.prog 41 #[.string s, .int .i64 10, .int .i64 m] w fun e w' => e = .returned (.tuple #[.int .i64 (numO 10 m s), .bool (numK 10 m s)]) ∧ Below w.heap.size w w' := by
  by_cases h0 : s.size = 0
  · have E := hide (numR_no (b := 10) (m := m) (.inl h0))
    have he : s.toList.isEmpty = true := by rw [ByteArray.toList_eq, List.isEmpty_iff, ← List.length_eq_zero_iff, Array.length_toList]; exact h0
    rw [E.out.1, E.out.2]
    clear h0
    go_enter Tryz.func41, Tryz.ntmps41
    go_wp2_with (fail)
    go_ret2
    exact ⟨rfl, Below.refl _ _⟩
  · have hp : 1 ≤ s.size := by omega
    have he := not_empty hp
    by_cases h1 : m < s.size
    · have E := hide (numR_no (b := 10) (.inr (.inl h1)))
      have h1' : (m : Int) < (s.size : Int) := by omega
      rw [E.out.1, E.out.2]
      go_enter Tryz.func41, Tryz.ntmps41
      go_wp2_with (fail)
      go_ret2
      exact ⟨rfl, Below.refl _ _⟩
    · have h1' : ¬ (m : Int) < (s.size : Int) := by omega
      have h1d : decide ((m : Int) < (s.size : Int)) = false := by simp; omega
      have h1n : decide (m < s.size) = false := by simp; omega
      have hget : s.data.toList[0]? = some s[0] := by rw [List.getElem?_eq_getElem (by rw [Array.length_toList]; exact hp)]; rfl
      by_cases h2 : 1 < s.size ∧ s.data.toList[0]? = some 48
      · have E := hide (numR_no (b := 10) (m := m) (.inr (.inr h2)))
        obtain ⟨h3, h4⟩ := h2
        rw [hget] at h4
        have h48 : s[0] = 48 := Option.some.inj h4
        have h4' : (s[0].toNat : Int) = 48 := by rw [h48]; rfl
        have h4n : s[0].toNat = 48 := by rw [h48]; rfl
        have h3' : (1 : Int) < (s.size : Int) := by omega
        rw [E.out.1, E.out.2]
        clear h4 h48 hget
        go_enter Tryz.func41, Tryz.ntmps41
        go_wp2_with (fail)
        go_ret2
        exact ⟨rfl, Below.refl _ _⟩
      · have hno : ¬ (s.size = 0 ∨ m < s.size ∨ (1 < s.size ∧ s.data.toList[0]? = some 48)) := by rintro (h | h | h); exact h0 h; exact h1 h; exact h2 h
        have HT := hide (fun W => trim_dg 10 (by decide) s W (by omega))
        cases ha : s.data.toList.all (dgt 10)
        · have E := hide (numR_bad (b := 10) hno ha)
          have htr : ¬ Lib.trimS s.data.toList (dg16.extract 0 10).data.toList = [] := fun e => by rw [(trim_is (by decide) s).1 e] at ha; cases ha
          obtain ⟨T, hT⟩ : ∃ T : ByteArray, (⟨(Lib.trimS s.data.toList (dg16.extract 0 10).data.toList).toArray⟩ : ByteArray) = T := ⟨_, rfl⟩
          have hTe : T.toList.isEmpty = false := by
            rw [ByteArray.toList_eq, ← hT]
            cases hq : Lib.trimS s.data.toList (dg16.extract 0 10).data.toList with
            | nil => exact absurd hq htr
            | cons a l => rfl
          simp only [hT] at HT
          rw [E.out.1, E.out.2]
          clear ha htr hT hno
          by_cases h3 : 1 < s.size
          · have h3' : (1 : Int) < (s.size : Int) := by omega
            have h48 : ¬ s[0].toNat = 48 := fun e => h2 ⟨h3, by rw [hget]; congr 1; exact UInt8.toNat_inj.1 e⟩
            have h4' : ((s[0].toNat : Int) == 48) = false := by rw [beq_eq_false_iff_ne]; omega
            have h4n : (s[0].toNat == 48) = false := by rw [beq_eq_false_iff_ne]; exact h48
            clear h2 hget
            go_enter Tryz.func41, Tryz.ntmps41
            go_wp2_with (first | (go_at_call 63; refine (HT.out _).mono ?_; rintro e w1 ⟨rfl, hw1⟩; have HBT := hide hw1; clear hw1) | go_quiet (fail))
            go_ret2
            exact ⟨rfl, by first | exact HBT.out | exact below_drewN HBT.out _ | exact HBT.out.drew⟩
          · have h3' : ¬ (1 : Int) < (s.size : Int) := by omega
            have h3d : decide ((1 : Int) < (s.size : Int)) = false := by simp; omega
            have h3n : decide (1 < s.size) = false := by simp; omega
            clear h2 hget
            go_enter Tryz.func41, Tryz.ntmps41
            go_wp2_with (first | (go_at_call 63; refine (HT.out _).mono ?_; rintro e w1 ⟨rfl, hw1⟩; have HBT := hide hw1; clear hw1) | go_quiet (fail))
            go_ret2
            exact ⟨rfl, by first | exact HBT.out | exact below_drewN HBT.out _ | exact HBT.out.drew⟩
        · have E := hide (numR_ok (b := 10) hno ha)
          have htr := (trim_is (b := 10) (by decide) s).2 ha
          obtain ⟨T, hT⟩ : ∃ T : ByteArray, (⟨(Lib.trimS s.data.toList (dg16.extract 0 10).data.toList).toArray⟩ : ByteArray) = T := ⟨_, rfl⟩
          have hTe : T.toList.isEmpty = true := by rw [ByteArray.toList_eq, ← hT, htr]; rfl
          simp only [hT] at HT
          have HPI := hide (fun W => ParseInt_10 s W hp (by omega) (List.all_eq_true.1 ha))
          obtain ⟨n, hn⟩ : ∃ n : Int, ((numV 10 s.data.toList : Nat) : Int) = n := ⟨_, rfl⟩
          have hnb := numV_12 (b := 10) (by decide) (l := s.data.toList) (k := s.data.toList.length) (Nat.le_refl _) (by rw [Array.length_toList]; show s.size ≤ 12; omega) (List.all_eq_true.1 ha)
          rw [List.take_length] at hnb
          have hn0 : 0 ≤ n := by omega
          have hn1 : n < 281474976710656 := by omega
          rw [hn] at E
          simp only [hn] at HPI
          rw [E.out.1, E.out.2]
          have q1 : IntKind.i64.wrap n = n := IntWalk.i64_in _ (by omega)
          clear ha htr hT hno hn hnb
          by_cases h3 : 1 < s.size
          · have h3' : (1 : Int) < (s.size : Int) := by omega
            have h48 : ¬ s[0].toNat = 48 := fun e => h2 ⟨h3, by rw [hget]; congr 1; exact UInt8.toNat_inj.1 e⟩
            have h4' : ((s[0].toNat : Int) == 48) = false := by rw [beq_eq_false_iff_ne]; omega
            have h4n : (s[0].toNat == 48) = false := by rw [beq_eq_false_iff_ne]; exact h48
            clear h2 hget
            go_enter Tryz.func41, Tryz.ntmps41
            go_wp2_with (first | (go_at_call 63; refine (HT.out _).mono ?_; rintro e w1 ⟨rfl, hw1⟩; have HBT := hide hw1; clear hw1) | (go_at_call 64; refine (HPI.out _).mono ?_; rintro e w2 ⟨rfl, hw2⟩; have HBT := hide (HBT.out.trans (hw2.mono HBT.out.size)); clear hw2) | go_quiet (fail))
            go_ret2
            exact ⟨rfl, by first | exact HBT.out | exact below_drewN HBT.out _ | exact HBT.out.drew⟩
          · have h3' : ¬ (1 : Int) < (s.size : Int) := by omega
            have h3d : decide ((1 : Int) < (s.size : Int)) = false := by simp; omega
            have h3n : decide (1 < s.size) = false := by simp; omega
            clear h2 hget
            go_enter Tryz.func41, Tryz.ntmps41
            go_wp2_with (first | (go_at_call 63; refine (HT.out _).mono ?_; rintro e w1 ⟨rfl, hw1⟩; have HBT := hide hw1; clear hw1) | (go_at_call 64; refine (HPI.out _).mono ?_; rintro e w2 ⟨rfl, hw2⟩; have HBT := hide (HBT.out.trans (hw2.mono HBT.out.size)); clear hw2) | go_quiet (fail))
            go_ret2
            exact ⟨rfl, by first | exact HBT.out | exact below_drewN HBT.out _ | exact HBT.out.drew⟩
set_option maxRecDepth 100000 in
set_option maxHeartbeats 4000000 in
theorem number_16 (s : ByteArray) (m : Nat) (w : World) (hm : m ≤ 12) (hs : s.size ≤ 4611686018427387904) :
    Calls Tryz.prog 41 #[.string s, .int .i64 16, .int .i64 m] w fun e w' => e = .returned (.tuple #[.int .i64 (numO 16 m s), .bool (numK 16 m s)]) ∧ Below w.heap.size w w' := by
  by_cases h0 : s.size = 0
  · have E := hide (numR_no (b := 16) (m := m) (.inl h0))
    have he : s.toList.isEmpty = true := by rw [ByteArray.toList_eq, List.isEmpty_iff, ← List.length_eq_zero_iff, Array.length_toList]; exact h0
    rw [E.out.1, E.out.2]
    clear h0
    go_enter Tryz.func41, Tryz.ntmps41
    go_wp2_with (fail)
    go_ret2
    exact ⟨rfl, Below.refl _ _⟩
  · have hp : 1 ≤ s.size := by omega
    have he := not_empty hp
    by_cases h1 : m < s.size
    · have E := hide (numR_no (b := 16) (.inr (.inl h1)))
      have h1' : (m : Int) < (s.size : Int) := by omega
      rw [E.out.1, E.out.2]
      go_enter Tryz.func41, Tryz.ntmps41
      go_wp2_with (fail)
      go_ret2
      exact ⟨rfl, Below.refl _ _⟩
    · have h1' : ¬ (m : Int) < (s.size : Int) := by omega
      have h1d : decide ((m : Int) < (s.size : Int)) = false := by simp; omega
      have h1n : decide (m < s.size) = false := by simp; omega
      have hget : s.data.toList[0]? = some s[0] := by rw [List.getElem?_eq_getElem (by rw [Array.length_toList]; exact hp)]; rfl
      by_cases h2 : 1 < s.size ∧ s.data.toList[0]? = some 48
      · have E := hide (numR_no (b := 16) (m := m) (.inr (.inr h2)))
        obtain ⟨h3, h4⟩ := h2
        rw [hget] at h4
        have h48 : s[0] = 48 := Option.some.inj h4
        have h4' : (s[0].toNat : Int) = 48 := by rw [h48]; rfl
        have h4n : s[0].toNat = 48 := by rw [h48]; rfl
        have h3' : (1 : Int) < (s.size : Int) := by omega
        rw [E.out.1, E.out.2]
        clear h4 h48 hget
        go_enter Tryz.func41, Tryz.ntmps41
        go_wp2_with (fail)
        go_ret2
        exact ⟨rfl, Below.refl _ _⟩
      · have hno : ¬ (s.size = 0 ∨ m < s.size ∨ (1 < s.size ∧ s.data.toList[0]? = some 48)) := by rintro (h | h | h); exact h0 h; exact h1 h; exact h2 h
        have HT := hide (fun W => trim_dg 16 (by decide) s W (by omega))
        cases ha : s.data.toList.all (dgt 16)
        · have E := hide (numR_bad (b := 16) hno ha)
          have htr : ¬ Lib.trimS s.data.toList (dg16.extract 0 16).data.toList = [] := fun e => by rw [(trim_is (by decide) s).1 e] at ha; cases ha
          obtain ⟨T, hT⟩ : ∃ T : ByteArray, (⟨(Lib.trimS s.data.toList (dg16.extract 0 16).data.toList).toArray⟩ : ByteArray) = T := ⟨_, rfl⟩
          have hTe : T.toList.isEmpty = false := by
            rw [ByteArray.toList_eq, ← hT]
            cases hq : Lib.trimS s.data.toList (dg16.extract 0 16).data.toList with
            | nil => exact absurd hq htr
            | cons a l => rfl
          simp only [hT] at HT
          rw [E.out.1, E.out.2]
          clear ha htr hT hno
          by_cases h3 : 1 < s.size
          · have h3' : (1 : Int) < (s.size : Int) := by omega
            have h48 : ¬ s[0].toNat = 48 := fun e => h2 ⟨h3, by rw [hget]; congr 1; exact UInt8.toNat_inj.1 e⟩
            have h4' : ((s[0].toNat : Int) == 48) = false := by rw [beq_eq_false_iff_ne]; omega
            have h4n : (s[0].toNat == 48) = false := by rw [beq_eq_false_iff_ne]; exact h48
            clear h2 hget
            go_enter Tryz.func41, Tryz.ntmps41
            go_wp2_with (first | (go_at_call 63; refine (HT.out _).mono ?_; rintro e w1 ⟨rfl, hw1⟩; have HBT := hide hw1; clear hw1) | go_quiet (fail))
            go_ret2
            exact ⟨rfl, by first | exact HBT.out | exact below_drewN HBT.out _ | exact HBT.out.drew⟩
          · have h3' : ¬ (1 : Int) < (s.size : Int) := by omega
            have h3d : decide ((1 : Int) < (s.size : Int)) = false := by simp; omega
            have h3n : decide (1 < s.size) = false := by simp; omega
            clear h2 hget
            go_enter Tryz.func41, Tryz.ntmps41
            go_wp2_with (first | (go_at_call 63; refine (HT.out _).mono ?_; rintro e w1 ⟨rfl, hw1⟩; have HBT := hide hw1; clear hw1) | go_quiet (fail))
            go_ret2
            exact ⟨rfl, by first | exact HBT.out | exact below_drewN HBT.out _ | exact HBT.out.drew⟩
        · have E := hide (numR_ok (b := 16) hno ha)
          have htr := (trim_is (b := 16) (by decide) s).2 ha
          obtain ⟨T, hT⟩ : ∃ T : ByteArray, (⟨(Lib.trimS s.data.toList (dg16.extract 0 16).data.toList).toArray⟩ : ByteArray) = T := ⟨_, rfl⟩
          have hTe : T.toList.isEmpty = true := by rw [ByteArray.toList_eq, ← hT, htr]; rfl
          simp only [hT] at HT
          have HPI := hide (fun W => ParseInt_16 s W hp (by omega) (List.all_eq_true.1 ha))
          obtain ⟨n, hn⟩ : ∃ n : Int, ((numV 16 s.data.toList : Nat) : Int) = n := ⟨_, rfl⟩
          have hnb := numV_12 (b := 16) (by decide) (l := s.data.toList) (k := s.data.toList.length) (Nat.le_refl _) (by rw [Array.length_toList]; show s.size ≤ 12; omega) (List.all_eq_true.1 ha)
          rw [List.take_length] at hnb
          have hn0 : 0 ≤ n := by omega
          have hn1 : n < 281474976710656 := by omega
          rw [hn] at E
          simp only [hn] at HPI
          rw [E.out.1, E.out.2]
          have q1 : IntKind.i64.wrap n = n := IntWalk.i64_in _ (by omega)
          clear ha htr hT hno hn hnb
          by_cases h3 : 1 < s.size
          · have h3' : (1 : Int) < (s.size : Int) := by omega
            have h48 : ¬ s[0].toNat = 48 := fun e => h2 ⟨h3, by rw [hget]; congr 1; exact UInt8.toNat_inj.1 e⟩
            have h4' : ((s[0].toNat : Int) == 48) = false := by rw [beq_eq_false_iff_ne]; omega
            have h4n : (s[0].toNat == 48) = false := by rw [beq_eq_false_iff_ne]; exact h48
            clear h2 hget
            go_enter Tryz.func41, Tryz.ntmps41
            go_wp2_with (first | (go_at_call 63; refine (HT.out _).mono ?_; rintro e w1 ⟨rfl, hw1⟩; have HBT := hide hw1; clear hw1) | (go_at_call 64; refine (HPI.out _).mono ?_; rintro e w2 ⟨rfl, hw2⟩; have HBT := hide (HBT.out.trans (hw2.mono HBT.out.size)); clear hw2) | go_quiet (fail))
            go_ret2
            exact ⟨rfl, by first | exact HBT.out | exact below_drewN HBT.out _ | exact HBT.out.drew⟩
          · have h3' : ¬ (1 : Int) < (s.size : Int) := by omega
            have h3d : decide ((1 : Int) < (s.size : Int)) = false := by simp; omega
            have h3n : decide (1 < s.size) = false := by simp; omega
            clear h2 hget
            go_enter Tryz.func41, Tryz.ntmps41
            go_wp2_with (first | (go_at_call 63; refine (HT.out _).mono ?_; rintro e w1 ⟨rfl, hw1⟩; have HBT := hide hw1; clear hw1) | (go_at_call 64; refine (HPI.out _).mono ?_; rintro e w2 ⟨rfl, hw2⟩; have HBT := hide (HBT.out.trans (hw2.mono HBT.out.size)); clear hw2) | go_quiet (fail))
            go_ret2
            exact ⟨rfl, by first | exact HBT.out | exact below_drewN HBT.out _ | exact HBT.out.drew⟩
end Go.Proofs.YtkjpojaanocfjaaGreatDoor
