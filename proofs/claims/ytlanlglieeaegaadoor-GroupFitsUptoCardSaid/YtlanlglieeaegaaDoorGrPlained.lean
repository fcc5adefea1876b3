/- Walk of the reference's Plained (printed by gen_gq.py). -/
import Derived.Test.YtlanlglieeaegaaDoorGrDig
import Derived.Test.YtlanlglieeaegaaDoorGrPlain
namespace Go.Proofs.YtlanlglieeaegaaDoor
open Go.RowKit
set_option linter.unusedVariables false
/-- What is still to be written from i on, behind what was written. -/
structure QI (s : ByteArray) (out : ByteArray) (i : Nat) : Prop where
  eq : out.data.toList ++ pl (s.data.toList.drop i) = pl s.data.toList
  len : out.size + 3 * (s.size - i) ≤ 3 * s.size
  le : i ≤ s.size
theorem size_len (s : ByteArray) : s.data.toList.length = s.size := by simp
theorem QI.next {s out o : ByteArray} {i n : Nat} (h : QI s out i) (hs : step (s.data.toList.drop i) = (o.data.toList, n)) (hi : i < s.size) (hn : i + n ≤ s.size) (h1 : 1 ≤ n) : QI s (out ++ o) (i + n) := by
  have hne : s.data.toList.drop i ≠ [] := by intro e; have := congrArg List.length e; rw [List.length_drop, size_len, List.length_nil] at this; omega
  have hl := step_len (s.data.toList.drop i)
  have hlen := h.len
  rw [hs] at hl
  simp only [size_len] at hl
  refine ⟨?_, by rw [ByteArray.size_append]; omega, hn⟩
  rw [← h.eq, pl_step hne, hs, List.drop_drop, ByteArray.data_append, Array.toList_append, List.append_assoc]
theorem head_drop (s : ByteArray) (i : Nat) (h : i < s.size) : (s.data.toList.drop i).head? = some s[i] := by
  rw [List.head?_drop]; exact get_at s i h
theorem one_toList (s : ByteArray) (i : Nat) (h : i < s.size) : (s.extract i (i + 1)).data.toList = (s.data.toList.drop i).take 1 := by
  rw [ByteArray.data_extract, Array.toList_extract, List.extract_eq_take_drop, show i + 1 - i = 1 by omega]
theorem hp_0x' (s : ByteArray) (i : Nat) (W : World) {b : Bool} (h : pre0x (s.data.toList.drop i) = b) : Calls Tryd.prog 11 #[.string (s.extract i s.size), .string ⟨#[48, 120]⟩] W fun e w' => e = .returned (.bool b) ∧ w' = W := by
  rw [← h, ← extract_toList]; exact Tryd.strings_HasPrefix (s.extract i s.size) ⟨#[48, 120]⟩ W
set_option maxRecDepth 100000 in
set_option maxHeartbeats 8000000 in
theorem Plained_any (s : ByteArray) (w : World) (hs : s.size ≤ 46912496118442) :
    Calls Tryd.prog 8 #[.string s] w fun e w' => e = .returned (.string ⟨(pl s.data.toList).toArray⟩) ∧ Below w.heap.size w w' := by
  have b0 : (World.alloc w (.cells #[.string s] 9)).cell? ⟨w.heap.size, 0, none⟩ = some (.string s) := by simp
  have HW0 := hide ((Below.refl w.heap.size w).alloc (Nat.le_refl _) (.cells #[.string s] 9))
  go_enter Tryd.func8, Tryd.ntmps8
  go_wp2_with (fail)
  go_loopw [3, 4] (fun a b wr => ∃ (out : ByteArray) (i : Nat), a = .string out ∧ b = .int .i64 i ∧ QI s out i ∧ wr.cell? ⟨w.heap.size, 0, none⟩ = some (.string s) ∧ Below w.heap.size w wr) (fun _ b _ => s.size - (intOf b).toNat)
  case atStart => exact ⟨⟨#[]⟩, 0, rfl, rfl, ⟨rfl, Nat.le_of_eq (Nat.zero_add _), Nat.zero_le _⟩, b0, HW0.out⟩
  case round =>
    obtain ⟨out, i, rfl, rfl, hqi, c0, hB⟩ := hrel
    have HQI := hide hqi
    have hlen := hqi.len
    have hile := hqi.le
    have hz := hB.size
    have hlt := World.block_lt_of_cell? wr _ c0
    simp only at hlt
    clear hqi
    by_cases h0 : i < s.size
    · have HCK := hide (show ∀ o : Obj, (wr.alloc o).cell? ⟨w.heap.size, 0, none⟩ = some (.string s) from fun o => (World.cell?_alloc_lt _ _ _ (by simpa using hlt)).trans c0)
      have HBK := hide (fun o : Obj => hB.alloc hz o)
      have DXH := hide (fun (x : Nat) (hx : x ≤ s.size) => dig_any hexB isHx hexB_has s x wr.heap.size w.heap.size (wr.alloc (.cells #[.int .i64 x] 3)) hx (by omega) (by simp) (HCK.out _))
      have DXD := hide (fun (x : Nat) (hx : x ≤ s.size) => dig_any decB isDig decB_has s x wr.heap.size w.heap.size (wr.alloc (.cells #[.int .i64 x] 3)) hx (by omega) (by simp) (HCK.out _))
      unfold hexB at DXH
      unfold decB at DXD
      cases hx0 : pre0x (s.data.toList.drop i)
      · have HHP := hide (fun W => hp_0x' s i W hx0)
        have HDD := hide (DXD.out i hile)
        obtain ⟨n2, hn2⟩ : ∃ n2, run isDig (s.data.toList.drop i) = n2 := ⟨_, rfl⟩
        have hn2b : i + n2 ≤ s.size := by have := run_le isDig (s.data.toList.drop i); rw [hn2, List.length_drop, size_len] at this; omega
        obtain ⟨k2, hk2⟩ : ∃ k2, i + n2 = k2 := ⟨_, rfl⟩
        rw [hn2, hk2] at HDD
        by_cases hd : 0 < n2
        · have HN := hide (HQI.out.next (o := ⟨#[60, 110, 62]⟩) (step_dig (.inl hx0) (by rw [hn2]; exact hd)) h0 (by rw [hn2]; exact hn2b) (by rw [hn2]; exact hd))
          rw [hn2, hk2] at HN
          have hik : i < k2 := by omega
          have hik' : (i : Int) < (k2 : Int) := by omega
          clear hn2
          go_wp2_with (first | (go_at_call 11; refine (HHP.out _).mono ?_; rintro e w1 ⟨rfl, rfl⟩) | (go_at_call 19; with_reducible refine HDD.out.mono ?_; rintro e w1 ⟨rfl, rfl⟩))
          go_roundw
          case rel => exact ⟨out ++ ⟨#[60, 110, 62]⟩, k2, by rfl, rfl, HN.out, HCK.out _, HBK.out _⟩
          case measure => simp [intOf]; omega
        · have hd0 : n2 = 0 := by omega
          have hrd : run isDig (s.data.toList.drop i) = 0 := by rw [hn2, hd0]
          obtain rfl : k2 = i := by omega
          by_cases hq : s[k2] = 34
          · have hq1 : (s[k2].toNat : Int) = 34 := by rw [hq]; rfl
            have hhd : (s.data.toList.drop k2).head? = some 34 := by rw [head_drop s k2 h0, hq]
            obtain ⟨i1, hi1⟩ : ∃ i1, i1 = k2 + 1 := ⟨_, rfl⟩
            have e1 : (k2 : Int) + 1 = (i1 : Int) := by omega
            have w1 : IntKind.i64.wrap ((k2 : Int) + 1) = (i1 : Int) := by rw [e1]; exact IntWalk.i64_in _ (by omega)
            have w2 : IntKind.i64.wrap (i1 : Int) = (i1 : Int) := IntWalk.i64_in _ (by omega)
            have HIB := hide (fun W => Tryd.strings_IndexByte (s.extract i1 s.size) 34 W)
            rw [show ((34 : Int)).toNat.toUInt8 = 34 from rfl, extract_toList] at HIB
            obtain ⟨x, hx⟩ : ∃ x, Lib.indexByte ((s.data.toList.drop k2).drop 1) 34 = x := ⟨_, rfl⟩
            rw [show s.data.toList.drop i1 = (s.data.toList.drop k2).drop 1 by rw [List.drop_drop, hi1], hx] at HIB
            by_cases hxk : 0 ≤ x
            · obtain ⟨k, rfl⟩ := Int.eq_ofNat_of_zero_le hxk
              have hkb : k2 + (k + 2) ≤ s.size := by have := idx_lt hx; rw [List.length_drop, List.length_drop, size_len] at this; omega
              have HN := hide (HQI.out.next (o := ⟨#[60, 115, 62]⟩) (step_quo (.inl hx0) hrd hhd (by rw [hx]; exact hxk)) h0 (by rw [hx]; simpa using hkb) (by omega))
              rw [hx, Int.toNat_natCast] at HN
              clear hn2 hrd hx hhd hq hi1
              go_wp2_with (first | (go_at_call 11; refine (HHP.out _).mono ?_; rintro e w1 ⟨rfl, rfl⟩) | (go_at_call 19; with_reducible refine HDD.out.mono ?_; rintro e w1 ⟨rfl, rfl⟩) | (go_at_call 16; refine (HIB.out _).mono ?_; rintro e w1 ⟨rfl, rfl⟩))
              go_roundw
              case rel => exact ⟨out ++ ⟨#[60, 115, 62]⟩, k2 + (k + 2), by rfl, by go_num, HN.out, HCK.out _, HBK.out _⟩
              case measure => simp [intOf]; omega
            · have hx1 : x < 0 := by omega
              have hx2 : decide (0 ≤ x) = false := by simp; omega
              have HN := hide (HQI.out.next (o := s.extract k2 (k2 + 1)) (n := 1) (by rw [one_toList s k2 h0]; exact step_one (.inl hx0) hrd (.inr (by rw [hx]; exact hx1))) h0 (by omega) (Nat.le_refl _))
              rw [← hi1] at HN
              have hlt1 : k2 < i1 := by omega
              clear hn2 hrd hx hhd hq hi1
              go_wp2_with (first | (go_at_call 11; refine (HHP.out _).mono ?_; rintro e w1 ⟨rfl, rfl⟩) | (go_at_call 19; with_reducible refine HDD.out.mono ?_; rintro e w1 ⟨rfl, rfl⟩) | (go_at_call 16; refine (HIB.out _).mono ?_; rintro e w1 ⟨rfl, rfl⟩))
              go_roundw
              case rel => exact ⟨out ++ s.extract k2 i1, i1, by rfl, rfl, HN.out, HCK.out _, HBK.out _⟩
              case measure => simp [intOf]; omega
          · have hq1 : ¬ (s[k2].toNat : Int) = 34 := u8_ne (d := 34) hq
            obtain ⟨i1, hi1⟩ : ∃ i1, i1 = k2 + 1 := ⟨_, rfl⟩
            have e1 : (k2 : Int) + 1 = (i1 : Int) := by omega
            have w1 : IntKind.i64.wrap ((k2 : Int) + 1) = (i1 : Int) := by rw [e1]; exact IntWalk.i64_in _ (by omega)
            have w2 : IntKind.i64.wrap (i1 : Int) = (i1 : Int) := IntWalk.i64_in _ (by omega)
            have HN := hide (HQI.out.next (o := s.extract k2 (k2 + 1)) (n := 1) (by rw [one_toList s k2 h0]; exact step_one (.inl hx0) hrd (.inl (by rw [head_drop s k2 h0]; intro e; exact hq (Option.some.inj e)))) h0 (by omega) (Nat.le_refl _))
            rw [← hi1] at HN
            have hlt1 : k2 < i1 := by omega
            clear hn2 hrd hq hi1
            go_wp2_with (first | (go_at_call 11; refine (HHP.out _).mono ?_; rintro e w1 ⟨rfl, rfl⟩) | (go_at_call 19; with_reducible refine HDD.out.mono ?_; rintro e w1 ⟨rfl, rfl⟩))
            go_roundw
            case rel => exact ⟨out ++ s.extract k2 i1, i1, by rfl, rfl, HN.out, HCK.out _, HBK.out _⟩
            case measure => simp [intOf]; omega
      · have HHP := hide (fun W => hp_0x' s i W hx0)
        obtain ⟨i2, hi2⟩ : ∃ i2, i2 = i + 2 := ⟨_, rfl⟩
        have e2 : (i : Int) + 2 = (i2 : Int) := by omega
        have w3 : IntKind.i64.wrap ((i : Int) + 2) = (i2 : Int) := by rw [e2]; exact IntWalk.i64_in _ (by omega)
        have w4 : IntKind.i64.wrap (i2 : Int) = (i2 : Int) := IntWalk.i64_in _ (by omega)
        have ht2 : i2 ≤ s.size := by have := pre0x_len hx0; rw [List.length_drop, size_len] at this; omega
        have HDH := hide (DXH.out i2 ht2)
        rw [show s.data.toList.drop i2 = (s.data.toList.drop i).drop 2 by rw [List.drop_drop, hi2]] at HDH
        obtain ⟨n1, hn1⟩ : ∃ n1, run isHx ((s.data.toList.drop i).drop 2) = n1 := ⟨_, rfl⟩
        have hn1b : i2 + n1 ≤ s.size := by have := run_le isHx ((s.data.toList.drop i).drop 2); rw [hn1, List.length_drop, List.length_drop, size_len] at this; omega
        obtain ⟨k1, hk1⟩ : ∃ k1, i2 + n1 = k1 := ⟨_, rfl⟩
        rw [hn1, hk1] at HDH
        have hlt2 : i < i2 := by omega
        by_cases hh : 0 < n1
        · have HN := hide (HQI.out.next (o := ⟨#[60, 97, 62]⟩) (step_hex hx0 (by rw [hn1]; exact hh)) h0 (by rw [hn1]; omega) (by omega))
          rw [hn1, show i + (2 + n1) = k1 by omega] at HN
          have hik : i2 < k1 := by omega
          have hik' : (i2 : Int) < (k1 : Int) := by omega
          clear hn1 hx0 hi2
          go_wp2_with (first | (go_at_call 11; refine (HHP.out _).mono ?_; rintro e w1 ⟨rfl, rfl⟩) | (go_at_call 19; with_reducible refine HDH.out.mono ?_; rintro e w1 ⟨rfl, rfl⟩))
          go_roundw
          case rel => exact ⟨out ++ ⟨#[60, 97, 62]⟩, k1, by rfl, rfl, HN.out, HCK.out _, HBK.out _⟩
          case measure => simp [intOf]; omega
        · have hh0 : n1 = 0 := by omega
          have hrh : run isHx ((s.data.toList.drop i).drop 2) = 0 := by rw [hn1, hh0]
          obtain rfl : k1 = i2 := by omega
          clear hn1 hi2
          have HDD := hide (DXD.out i hile)
          obtain ⟨n2, hn2⟩ : ∃ n2, run isDig (s.data.toList.drop i) = n2 := ⟨_, rfl⟩
          have hn2b : i + n2 ≤ s.size := by have := run_le isDig (s.data.toList.drop i); rw [hn2, List.length_drop, size_len] at this; omega
          obtain ⟨k2, hk2⟩ : ∃ k2, i + n2 = k2 := ⟨_, rfl⟩
          rw [hn2, hk2] at HDD
          by_cases hd : 0 < n2
          · have HN := hide (HQI.out.next (o := ⟨#[60, 110, 62]⟩) (step_dig (.inr hrh) (by rw [hn2]; exact hd)) h0 (by rw [hn2]; exact hn2b) (by rw [hn2]; exact hd))
            rw [hn2, hk2] at HN
            have hik : i < k2 := by omega
            have hik' : (i : Int) < (k2 : Int) := by omega
            clear hn2
            go_wp2_with (first | (go_at_call 11; refine (HHP.out _).mono ?_; rintro e w1 ⟨rfl, rfl⟩) | (go_at_call 19; with_reducible refine HDH.out.mono ?_; rintro e w1 ⟨rfl, rfl⟩) | (go_at_call 19; with_reducible refine HDD.out.mono ?_; rintro e w1 ⟨rfl, rfl⟩))
            go_roundw
            case rel => exact ⟨out ++ ⟨#[60, 110, 62]⟩, k2, by rfl, rfl, HN.out, HCK.out _, HBK.out _⟩
            case measure => simp [intOf]; omega
          · have hd0 : n2 = 0 := by omega
            have hrd : run isDig (s.data.toList.drop i) = 0 := by rw [hn2, hd0]
            obtain rfl : k2 = i := by omega
            by_cases hq : s[k2] = 34
            · have hq1 : (s[k2].toNat : Int) = 34 := by rw [hq]; rfl
              have hhd : (s.data.toList.drop k2).head? = some 34 := by rw [head_drop s k2 h0, hq]
              obtain ⟨i1, hi1⟩ : ∃ i1, i1 = k2 + 1 := ⟨_, rfl⟩
              have e1 : (k2 : Int) + 1 = (i1 : Int) := by omega
              have w1 : IntKind.i64.wrap ((k2 : Int) + 1) = (i1 : Int) := by rw [e1]; exact IntWalk.i64_in _ (by omega)
              have w2 : IntKind.i64.wrap (i1 : Int) = (i1 : Int) := IntWalk.i64_in _ (by omega)
              have HIB := hide (fun W => Tryd.strings_IndexByte (s.extract i1 s.size) 34 W)
              rw [show ((34 : Int)).toNat.toUInt8 = 34 from rfl, extract_toList] at HIB
              obtain ⟨x, hx⟩ : ∃ x, Lib.indexByte ((s.data.toList.drop k2).drop 1) 34 = x := ⟨_, rfl⟩
              rw [show s.data.toList.drop i1 = (s.data.toList.drop k2).drop 1 by rw [List.drop_drop, hi1], hx] at HIB
              by_cases hxk : 0 ≤ x
              · obtain ⟨k, rfl⟩ := Int.eq_ofNat_of_zero_le hxk
                have hkb : k2 + (k + 2) ≤ s.size := by have := idx_lt hx; rw [List.length_drop, List.length_drop, size_len] at this; omega
                have HN := hide (HQI.out.next (o := ⟨#[60, 115, 62]⟩) (step_quo (.inr hrh) hrd hhd (by rw [hx]; exact hxk)) h0 (by rw [hx]; simpa using hkb) (by omega))
                rw [hx, Int.toNat_natCast] at HN
                clear hn2 hrd hx hhd hq hi1
                go_wp2_with (first | (go_at_call 11; refine (HHP.out _).mono ?_; rintro e w1 ⟨rfl, rfl⟩) | (go_at_call 19; with_reducible refine HDH.out.mono ?_; rintro e w1 ⟨rfl, rfl⟩) | (go_at_call 19; with_reducible refine HDD.out.mono ?_; rintro e w1 ⟨rfl, rfl⟩) | (go_at_call 16; refine (HIB.out _).mono ?_; rintro e w1 ⟨rfl, rfl⟩))
                go_roundw
                case rel => exact ⟨out ++ ⟨#[60, 115, 62]⟩, k2 + (k + 2), by rfl, by go_num, HN.out, HCK.out _, HBK.out _⟩
                case measure => simp [intOf]; omega
              · have hx1 : x < 0 := by omega
                have hx2 : decide (0 ≤ x) = false := by simp; omega
                have HN := hide (HQI.out.next (o := s.extract k2 (k2 + 1)) (n := 1) (by rw [one_toList s k2 h0]; exact step_one (.inr hrh) hrd (.inr (by rw [hx]; exact hx1))) h0 (by omega) (Nat.le_refl _))
                rw [← hi1] at HN
                have hlt1 : k2 < i1 := by omega
                clear hn2 hrd hx hhd hq hi1
                go_wp2_with (first | (go_at_call 11; refine (HHP.out _).mono ?_; rintro e w1 ⟨rfl, rfl⟩) | (go_at_call 19; with_reducible refine HDH.out.mono ?_; rintro e w1 ⟨rfl, rfl⟩) | (go_at_call 19; with_reducible refine HDD.out.mono ?_; rintro e w1 ⟨rfl, rfl⟩) | (go_at_call 16; refine (HIB.out _).mono ?_; rintro e w1 ⟨rfl, rfl⟩))
                go_roundw
                case rel => exact ⟨out ++ s.extract k2 i1, i1, by rfl, rfl, HN.out, HCK.out _, HBK.out _⟩
                case measure => simp [intOf]; omega
            · have hq1 : ¬ (s[k2].toNat : Int) = 34 := u8_ne (d := 34) hq
              obtain ⟨i1, hi1⟩ : ∃ i1, i1 = k2 + 1 := ⟨_, rfl⟩
              have e1 : (k2 : Int) + 1 = (i1 : Int) := by omega
              have w1 : IntKind.i64.wrap ((k2 : Int) + 1) = (i1 : Int) := by rw [e1]; exact IntWalk.i64_in _ (by omega)
              have w2 : IntKind.i64.wrap (i1 : Int) = (i1 : Int) := IntWalk.i64_in _ (by omega)
              have HN := hide (HQI.out.next (o := s.extract k2 (k2 + 1)) (n := 1) (by rw [one_toList s k2 h0]; exact step_one (.inr hrh) hrd (.inl (by rw [head_drop s k2 h0]; intro e; exact hq (Option.some.inj e)))) h0 (by omega) (Nat.le_refl _))
              rw [← hi1] at HN
              have hlt1 : k2 < i1 := by omega
              clear hn2 hrd hq hi1
              go_wp2_with (first | (go_at_call 11; refine (HHP.out _).mono ?_; rintro e w1 ⟨rfl, rfl⟩) | (go_at_call 19; with_reducible refine HDH.out.mono ?_; rintro e w1 ⟨rfl, rfl⟩) | (go_at_call 19; with_reducible refine HDD.out.mono ?_; rintro e w1 ⟨rfl, rfl⟩))
              go_roundw
              case rel => exact ⟨out ++ s.extract k2 i1, i1, by rfl, rfl, HN.out, HCK.out _, HBK.out _⟩
              case measure => simp [intOf]; omega
    · have E := hide (show pl s.data.toList = out.data.toList by rw [← HQI.out.eq, show s.data.toList.drop i = [] from List.drop_eq_nil_of_le (by rw [size_len]; omega), pl_nil, List.append_nil])
      go_wp2_with (fail)
      go_ret
      exact ⟨by rw [E.out]; rfl, hB⟩
end Go.Proofs.YtlanlglieeaegaaDoor
