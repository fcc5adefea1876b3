/- Walk of Plain (printed by gen_gp.py). -/
import Derived.Test.YtomihkflhhhpjaaDoorGrRow
import Derived.Test.YtomihkflhhhpjaaDoorBldByte
namespace Go.Proofs.YtomihkflhhhpjaaDoor
open Go.RowKit
set_option linter.unusedVariables false
def strV : Value → ByteArray
  | .string s => s
  | _ => ByteArray.empty
theorem byteCells_app (a b : List UInt8) : Lib.byteCells a ++ Lib.byteCells b = Lib.byteCells (a ++ b) := by simp [Lib.byteCells]
theorem byteCells_len (a : List UInt8) : (Lib.byteCells a).length = a.length := by simp [Lib.byteCells]
theorem step_len (l : List UInt8) : (step l).1.length ≤ 3 := by
  unfold step
  split
  · simp
  · split
    · simp
    · split
      · simp
      · simp; omega
theorem extract_size (t : ByteArray) (n : Nat) : (t.extract n t.size).size = t.size - n := by simp
/-- What is still to be written, behind what was written. -/
structure PI (s : ByteArray) (out : List UInt8) (t : ByteArray) : Prop where
  eq : out ++ pl t.data.toList = pl s.data.toList
  len : out.length + 3 * t.size ≤ 3 * s.size
theorem ne_nil {t : ByteArray} (h : 0 < t.size) : t.data.toList ≠ [] := fun e => by
  have h1 : t.data.toList.length = t.size := by simp
  rw [e, List.length_nil] at h1
  omega
theorem PI.next {s t : ByteArray} {out o : List UInt8} {n : Nat} (h : PI s out t) (hs : step t.data.toList = (o, n)) (hn : n ≤ t.size) (h1 : 1 ≤ n) : PI s (out ++ o) (t.extract n t.size) := by
  have hne : t.data.toList ≠ [] := ne_nil (by omega)
  have hl := step_len t.data.toList
  have hlen := h.len
  rw [hs] at hl
  refine ⟨?_, by rw [extract_size, List.length_append]; simp at hl; omega⟩
  rw [← h.eq, pl_step hne, hs, extract_toList, List.append_assoc]
theorem hp_0x (t : ByteArray) (W : World) {b : Bool} (h : pre0x t.data.toList = b) : Calls Tryd.prog 22 #[.string t, .string ⟨#[48, 120]⟩] W fun e w' => e = .returned (.bool b) ∧ w' = W := by
  rw [← h]; exact Tryd.strings_HasPrefix t ⟨#[48, 120]⟩ W
theorem bld_lt0 {B b : Nat} {l : List Value} {w : World} (h : Bld B b l w) : b < w.heap.size := by
  rcases h with h | h
  · exact h.lt
  · exact h.lt
theorem head_at (t : ByteArray) (h : 0 < t.size) : t.data.toList.head? = some t[0] := by
  rw [List.head?_eq_getElem?]; exact get_at t 0 h
set_option maxRecDepth 100000 in
set_option maxHeartbeats 8000000 in
theorem Plain_any (s : ByteArray) (w : World) (hs : s.size ≤ 46912496118442) :
    Calls Tryd.prog 9 #[.string s] w fun e w' => e = .returned (.string ⟨(pl s.data.toList).toArray⟩) ∧ Below w.heap.size w w' := by
  have hbz : (World.alloc w (.cells #[.pointer none, .slice none 0 0] 61)).heap[w.heap.size]? = some (.cells #[.pointer none, .slice none 0 0] 61 (0, 0)) := heap_alloc_new w _
  have HB0 := hide (show Bld w.heap.size w.heap.size (Lib.byteCells []) (World.alloc w (.cells #[.pointer none, .slice none 0 0] 61)) from .inl ⟨Nat.le_refl _, .slice none 0 0, hbz, World.ownsRow_nil _ _ _ _, by simp [Value.ownBlock]⟩)
  have HW0 := hide ((Below.refl w.heap.size w).alloc (Nat.le_refl _) (.cells #[.pointer none, .slice none 0 0] 61))
  clear hbz
  go_enter Tryd.func9, Tryd.ntmps9
  go_wp2_with (fail)
  go_loopw [0] (fun a wr => ∃ (t : ByteArray) (out : List UInt8), a = .string t ∧ PI s out t ∧ Bld w.heap.size w.heap.size (Lib.byteCells out) wr ∧ Below w.heap.size w wr) (fun a _ => (strV a).size)
  case atStart => exact ⟨s, [], rfl, ⟨rfl, by simp⟩, HB0.out, HW0.out⟩
  case round =>
    obtain ⟨t, out, rfl, hpi, hbld, hB⟩ := hrel
    have HPI := hide hpi
    have HBL := hide hbld
    have hlen := hpi.len
    have hz := hB.size
    clear hpi hbld
    by_cases h0 : t.size = 0
    · have he : t.toList = [] := by rw [ByteArray.toList_eq]; exact List.eq_nil_of_length_eq_zero (by simpa using h0)
      have he2 : t.toList.isEmpty = true := by rw [he]; rfl
      have HE := hide (show pl s.data.toList = out by rw [← HPI.out.eq, show t.data.toList = [] by rw [← ByteArray.toList_eq]; exact he, pl_nil, List.append_nil])
      have HS := hide (Tryd.Builder_String_any w.heap.size w.heap.size out wr HBL.out hz)
      go_wp2_with (go_at_call 29; refine HS.out.mono ?_; rintro r w3 ⟨rfl, hw3⟩; have hB3 : Below w.heap.size w w3 := hB.trans hw3)
      go_ret
      exact ⟨by rw [HE.out]; rfl, hB3⟩
    · have ht0 : 0 < t.size := by omega
      have hm : t.size ≤ maxLen := by unfold maxLen; omega
      have he : ¬ t.toList = [] := by rw [ByteArray.toList_eq]; exact ne_nil ht0
      have he2 : t.toList.isEmpty = false := by simpa using he
      cases hx0 : pre0x t.data.toList
      · have HHP := hide (fun W => hp_0x t W hx0)
        have HR2 := hide (fun W => row_isDigit t W hm)
        obtain ⟨n2, hn2⟩ : ∃ n2, run isDig t.data.toList = n2 := ⟨_, rfl⟩
        rw [hn2] at HR2
        have hn2b : n2 ≤ t.size := by have := run_le isDig t.data.toList; rw [hn2] at this; simpa using this
        by_cases hd : 0 < n2
        · have HN := hide (HPI.out.next (step_dig (.inl hx0) (by rw [hn2]; exact hd)) (by rw [hn2]; exact hn2b) (by rw [hn2]; exact hd))
          rw [hn2] at HN
          have HWS := hide (fun W (h : Bld w.heap.size w.heap.size (Lib.byteCells out) W) => WriteString_any w.heap.size w.heap.size (Lib.byteCells out) ⟨#[60, 110, 62]⟩ W h (by rw [byteCells_len]; show _ + 3 ≤ _; omega) (Nat.le_of_lt (bld_lt0 h)))
          clear hn2
          go_wp2_with (first | (go_at_call 22; refine (HHP.out _).mono ?_; rintro e w1 ⟨rfl, rfl⟩) | (go_at_call 23; with_reducible refine (HR2.out _).mono ?_; rintro e w1 ⟨rfl, rfl⟩) | (go_at_call 25; refine (HWS.out _ HBL.out).mono ?_; rintro r w3 ⟨rfl, hb3, hw3, _⟩; have HB3 := hide hb3; have hB3 : Below w.heap.size w w3 := hB.trans hw3; clear hb3 hw3))
          go_roundw
          case rel => exact ⟨t.extract n2 t.size, out ++ [60, 110, 62], by rfl, HN.out, by rw [← byteCells_app]; exact HB3.out, hB3⟩
          case measure => simp [strV]; omega
        · have hd0 : n2 = 0 := by omega
          have hrd : run isDig t.data.toList = 0 := by rw [hn2, hd0]
          by_cases hq : t[0] = 34
          · have hq1 : (t[0].toNat : Int) = 34 := by rw [hq]; rfl
            have hhd : t.data.toList.head? = some 34 := by rw [head_at t ht0, hq]
            have HIB := hide (fun W => Tryd.strings_IndexByte (t.extract 1 t.size) 34 W)
            rw [show ((34 : Int)).toNat.toUInt8 = 34 from rfl, extract_toList] at HIB
            obtain ⟨x, hx⟩ : ∃ x, Lib.indexByte (t.data.toList.drop 1) 34 = x := ⟨_, rfl⟩
            rw [hx] at HIB
            by_cases hxk : 0 ≤ x
            · obtain ⟨k, rfl⟩ := Int.eq_ofNat_of_zero_le hxk
              have hkb : k + 2 ≤ t.size := by have := idx_lt hx; simp at this; omega
              have HN := hide (HPI.out.next (step_quo (.inl hx0) hrd hhd (by rw [hx]; exact hxk)) (by rw [hx]; simpa using hkb) (by omega))
              rw [hx, Int.toNat_natCast] at HN
              have HWS := hide (fun W (h : Bld w.heap.size w.heap.size (Lib.byteCells out) W) => WriteString_any w.heap.size w.heap.size (Lib.byteCells out) ⟨#[60, 115, 62]⟩ W h (by rw [byteCells_len]; show _ + 3 ≤ _; omega) (Nat.le_of_lt (bld_lt0 h)))
              clear hn2 hrd hx hhd hq
              go_wp2_with (first | (go_at_call 22; refine (HHP.out _).mono ?_; rintro e w1 ⟨rfl, rfl⟩) | (go_at_call 23; with_reducible refine (HR2.out _).mono ?_; rintro e w1 ⟨rfl, rfl⟩) | (go_at_call 27; refine (HIB.out _).mono ?_; rintro e w1 ⟨rfl, rfl⟩) | (go_at_call 25; refine (HWS.out _ HBL.out).mono ?_; rintro r w3 ⟨rfl, hb3, hw3, _⟩; have HB3 := hide hb3; have hB3 : Below w.heap.size w w3 := hB.trans hw3; clear hb3 hw3))
              go_roundw
              case rel => exact ⟨t.extract (k + 2) t.size, out ++ [60, 115, 62], by rfl, HN.out, by rw [← byteCells_app]; exact HB3.out, hB3⟩
              case measure => simp [strV]; omega
            · have hx1 : x < 0 := by omega
              have hx2 : decide (0 ≤ x) = false := by simp; omega
              have HN := hide (HPI.out.next (step_one (.inl hx0) hrd (.inr (by rw [hx]; exact hx1))) ht0 (Nat.le_refl _))
              rw [show t.data.toList.take 1 = [34] by rw [List.take_one, hhd]; rfl] at HN
              have HWS := hide (fun W (h : Bld w.heap.size w.heap.size (Lib.byteCells out) W) => show Calls Tryd.prog 28 #[.pointer (some ⟨w.heap.size, 0, none⟩), .int .u8 34] W _ from WriteByte_any w.heap.size w.heap.size (Lib.byteCells out) 34 W h (by rw [byteCells_len]; omega) (Nat.le_of_lt (bld_lt0 h)))
              clear hn2 hrd hx hhd hq
              go_wp2_with (first | (go_at_call 22; refine (HHP.out _).mono ?_; rintro e w1 ⟨rfl, rfl⟩) | (go_at_call 23; with_reducible refine (HR2.out _).mono ?_; rintro e w1 ⟨rfl, rfl⟩) | (go_at_call 27; refine (HIB.out _).mono ?_; rintro e w1 ⟨rfl, rfl⟩) | (go_at_call 28; refine (HWS.out _ HBL.out).mono ?_; rintro r w3 ⟨rfl, hb3, hw3, _⟩; have HB3 := hide hb3; have hB3 : Below w.heap.size w w3 := hB.trans hw3; clear hb3 hw3))
              go_roundw
              case rel => exact ⟨t.extract 1 t.size, out ++ [34], by rfl, HN.out, by rw [← byteCells_app]; exact HB3.out, hB3⟩
              case measure => simp [strV]; omega
          · have hq1 : ¬ (t[0].toNat : Int) = 34 := u8_ne (d := 34) hq
            have HN := hide (HPI.out.next (step_one (.inl hx0) hrd (.inl (by rw [head_at t ht0]; intro e; exact hq (Option.some.inj e)))) ht0 (Nat.le_refl _))
            rw [show t.data.toList.take 1 = [t[0]] by rw [List.take_one, head_at t ht0]; rfl] at HN
            have HWS := hide (fun W (h : Bld w.heap.size w.heap.size (Lib.byteCells out) W) => WriteByte_any w.heap.size w.heap.size (Lib.byteCells out) t[0] W h (by rw [byteCells_len]; omega) (Nat.le_of_lt (bld_lt0 h)))
            clear hn2 hrd hq
            go_wp2_with (first | (go_at_call 22; refine (HHP.out _).mono ?_; rintro e w1 ⟨rfl, rfl⟩) | (go_at_call 23; with_reducible refine (HR2.out _).mono ?_; rintro e w1 ⟨rfl, rfl⟩) | (go_at_call 28; refine (HWS.out _ HBL.out).mono ?_; rintro r w3 ⟨rfl, hb3, hw3, _⟩; have HB3 := hide hb3; have hB3 : Below w.heap.size w w3 := hB.trans hw3; clear hb3 hw3))
            go_roundw
            case rel => exact ⟨t.extract 1 t.size, out ++ [t[0]], by rfl, HN.out, by rw [← byteCells_app]; exact HB3.out, hB3⟩
            case measure => simp [strV]; omega
      · have HHP := hide (fun W => hp_0x t W hx0)
        have ht2 : 2 ≤ t.size := by simpa using pre0x_len hx0
        have HR1 := hide (fun W => row_isHex (t.extract 2 t.size) W (by rw [extract_size]; omega))
        rw [extract_toList] at HR1
        obtain ⟨n1, hn1⟩ : ∃ n1, run isHx (t.data.toList.drop 2) = n1 := ⟨_, rfl⟩
        rw [hn1] at HR1
        have hn1b : 2 + n1 ≤ t.size := by have := run_le isHx (t.data.toList.drop 2); rw [hn1] at this; simp at this; omega
        by_cases hh : 0 < n1
        · have HN := hide (HPI.out.next (step_hex hx0 (by rw [hn1]; exact hh)) (by rw [hn1]; exact hn1b) (by omega))
          rw [hn1] at HN
          have HWS := hide (fun W (h : Bld w.heap.size w.heap.size (Lib.byteCells out) W) => WriteString_any w.heap.size w.heap.size (Lib.byteCells out) ⟨#[60, 97, 62]⟩ W h (by rw [byteCells_len]; show _ + 3 ≤ _; omega) (Nat.le_of_lt (bld_lt0 h)))
          clear hn1 hx0
          go_wp2_with (first | (go_at_call 22; refine (HHP.out _).mono ?_; rintro e w1 ⟨rfl, rfl⟩) | (go_at_call 23; with_reducible refine (HR1.out _).mono ?_; rintro e w1 ⟨rfl, rfl⟩) | (go_at_call 25; refine (HWS.out _ HBL.out).mono ?_; rintro r w3 ⟨rfl, hb3, hw3, _⟩; have HB3 := hide hb3; have hB3 : Below w.heap.size w w3 := hB.trans hw3; clear hb3 hw3))
          go_roundw
          case rel => exact ⟨t.extract (2 + n1) t.size, out ++ [60, 97, 62], by rfl, HN.out, by rw [← byteCells_app]; exact HB3.out, hB3⟩
          case measure => simp [strV]; omega
        · have hh0 : n1 = 0 := by omega
          have HR2 := hide (fun W => row_isDigit t W hm)
          obtain ⟨n2, hn2⟩ : ∃ n2, run isDig t.data.toList = n2 := ⟨_, rfl⟩
          rw [hn2] at HR2
          have hn2b : n2 ≤ t.size := by have := run_le isDig t.data.toList; rw [hn2] at this; simpa using this
          by_cases hd : 0 < n2
          · have HN := hide (HPI.out.next (step_dig (.inr (by rw [hn1, hh0])) (by rw [hn2]; exact hd)) (by rw [hn2]; exact hn2b) (by rw [hn2]; exact hd))
            rw [hn2] at HN
            have HWS := hide (fun W (h : Bld w.heap.size w.heap.size (Lib.byteCells out) W) => WriteString_any w.heap.size w.heap.size (Lib.byteCells out) ⟨#[60, 110, 62]⟩ W h (by rw [byteCells_len]; show _ + 3 ≤ _; omega) (Nat.le_of_lt (bld_lt0 h)))
            clear hn2
            go_wp2_with (first | (go_at_call 22; refine (HHP.out _).mono ?_; rintro e w1 ⟨rfl, rfl⟩) | (go_at_call 23; with_reducible refine (HR1.out _).mono ?_; rintro e w1 ⟨rfl, rfl⟩) | (go_at_call 23; with_reducible refine (HR2.out _).mono ?_; rintro e w1 ⟨rfl, rfl⟩) | (go_at_call 25; refine (HWS.out _ HBL.out).mono ?_; rintro r w3 ⟨rfl, hb3, hw3, _⟩; have HB3 := hide hb3; have hB3 : Below w.heap.size w w3 := hB.trans hw3; clear hb3 hw3))
            go_roundw
            case rel => exact ⟨t.extract n2 t.size, out ++ [60, 110, 62], by rfl, HN.out, by rw [← byteCells_app]; exact HB3.out, hB3⟩
            case measure => simp [strV]; omega
          · have hd0 : n2 = 0 := by omega
            have hrd : run isDig t.data.toList = 0 := by rw [hn2, hd0]
            by_cases hq : t[0] = 34
            · have hq1 : (t[0].toNat : Int) = 34 := by rw [hq]; rfl
              have hhd : t.data.toList.head? = some 34 := by rw [head_at t ht0, hq]
              have HIB := hide (fun W => Tryd.strings_IndexByte (t.extract 1 t.size) 34 W)
              rw [show ((34 : Int)).toNat.toUInt8 = 34 from rfl, extract_toList] at HIB
              obtain ⟨x, hx⟩ : ∃ x, Lib.indexByte (t.data.toList.drop 1) 34 = x := ⟨_, rfl⟩
              rw [hx] at HIB
              by_cases hxk : 0 ≤ x
              · obtain ⟨k, rfl⟩ := Int.eq_ofNat_of_zero_le hxk
                have hkb : k + 2 ≤ t.size := by have := idx_lt hx; simp at this; omega
                have HN := hide (HPI.out.next (step_quo (.inr (by rw [hn1, hh0])) hrd hhd (by rw [hx]; exact hxk)) (by rw [hx]; simpa using hkb) (by omega))
                rw [hx, Int.toNat_natCast] at HN
                have HWS := hide (fun W (h : Bld w.heap.size w.heap.size (Lib.byteCells out) W) => WriteString_any w.heap.size w.heap.size (Lib.byteCells out) ⟨#[60, 115, 62]⟩ W h (by rw [byteCells_len]; show _ + 3 ≤ _; omega) (Nat.le_of_lt (bld_lt0 h)))
                clear hn2 hrd hx hhd hq
                go_wp2_with (first | (go_at_call 22; refine (HHP.out _).mono ?_; rintro e w1 ⟨rfl, rfl⟩) | (go_at_call 23; with_reducible refine (HR1.out _).mono ?_; rintro e w1 ⟨rfl, rfl⟩) | (go_at_call 23; with_reducible refine (HR2.out _).mono ?_; rintro e w1 ⟨rfl, rfl⟩) | (go_at_call 27; refine (HIB.out _).mono ?_; rintro e w1 ⟨rfl, rfl⟩) | (go_at_call 25; refine (HWS.out _ HBL.out).mono ?_; rintro r w3 ⟨rfl, hb3, hw3, _⟩; have HB3 := hide hb3; have hB3 : Below w.heap.size w w3 := hB.trans hw3; clear hb3 hw3))
                go_roundw
                case rel => exact ⟨t.extract (k + 2) t.size, out ++ [60, 115, 62], by rfl, HN.out, by rw [← byteCells_app]; exact HB3.out, hB3⟩
                case measure => simp [strV]; omega
              · have hx1 : x < 0 := by omega
                have hx2 : decide (0 ≤ x) = false := by simp; omega
                have HN := hide (HPI.out.next (step_one (.inr (by rw [hn1, hh0])) hrd (.inr (by rw [hx]; exact hx1))) ht0 (Nat.le_refl _))
                rw [show t.data.toList.take 1 = [34] by rw [List.take_one, hhd]; rfl] at HN
                have HWS := hide (fun W (h : Bld w.heap.size w.heap.size (Lib.byteCells out) W) => show Calls Tryd.prog 28 #[.pointer (some ⟨w.heap.size, 0, none⟩), .int .u8 34] W _ from WriteByte_any w.heap.size w.heap.size (Lib.byteCells out) 34 W h (by rw [byteCells_len]; omega) (Nat.le_of_lt (bld_lt0 h)))
                clear hn2 hrd hx hhd hq
                go_wp2_with (first | (go_at_call 22; refine (HHP.out _).mono ?_; rintro e w1 ⟨rfl, rfl⟩) | (go_at_call 23; with_reducible refine (HR1.out _).mono ?_; rintro e w1 ⟨rfl, rfl⟩) | (go_at_call 23; with_reducible refine (HR2.out _).mono ?_; rintro e w1 ⟨rfl, rfl⟩) | (go_at_call 27; refine (HIB.out _).mono ?_; rintro e w1 ⟨rfl, rfl⟩) | (go_at_call 28; refine (HWS.out _ HBL.out).mono ?_; rintro r w3 ⟨rfl, hb3, hw3, _⟩; have HB3 := hide hb3; have hB3 : Below w.heap.size w w3 := hB.trans hw3; clear hb3 hw3))
                go_roundw
                case rel => exact ⟨t.extract 1 t.size, out ++ [34], by rfl, HN.out, by rw [← byteCells_app]; exact HB3.out, hB3⟩
                case measure => simp [strV]; omega
            · have hq1 : ¬ (t[0].toNat : Int) = 34 := u8_ne (d := 34) hq
              have HN := hide (HPI.out.next (step_one (.inr (by rw [hn1, hh0])) hrd (.inl (by rw [head_at t ht0]; intro e; exact hq (Option.some.inj e)))) ht0 (Nat.le_refl _))
              rw [show t.data.toList.take 1 = [t[0]] by rw [List.take_one, head_at t ht0]; rfl] at HN
              have HWS := hide (fun W (h : Bld w.heap.size w.heap.size (Lib.byteCells out) W) => WriteByte_any w.heap.size w.heap.size (Lib.byteCells out) t[0] W h (by rw [byteCells_len]; omega) (Nat.le_of_lt (bld_lt0 h)))
              clear hn2 hrd hq
              go_wp2_with (first | (go_at_call 22; refine (HHP.out _).mono ?_; rintro e w1 ⟨rfl, rfl⟩) | (go_at_call 23; with_reducible refine (HR1.out _).mono ?_; rintro e w1 ⟨rfl, rfl⟩) | (go_at_call 23; with_reducible refine (HR2.out _).mono ?_; rintro e w1 ⟨rfl, rfl⟩) | (go_at_call 28; refine (HWS.out _ HBL.out).mono ?_; rintro r w3 ⟨rfl, hb3, hw3, _⟩; have HB3 := hide hb3; have hB3 : Below w.heap.size w w3 := hB.trans hw3; clear hb3 hw3))
              go_roundw
              case rel => exact ⟨t.extract 1 t.size, out ++ [t[0]], by rfl, HN.out, by rw [← byteCells_app]; exact HB3.out, hB3⟩
              case measure => simp [strV]; omega
end Go.Proofs.YtomihkflhhhpjaaDoor
