/- The law GroupSteady. -/
import Derived.Test.YtomihkflhhhpjaaDoorGsPr
import Derived.Test.YtomihkflhhhpjaaDoorGsPl
import Derived.Test.YtomihkflhhhpjaaDoorGrAwk
import Derived.Laws.BytesArg
namespace Go.Proofs.YtomihkflhhhpjaaDoor
open Go.RowKit
set_option linter.unusedVariables false
set_option linter.unusedSimpArgs false
set_option maxHeartbeats 2000000 in
theorem digits_small (n : Nat) (w : World) (h : n < 10) : Calls Tryd.prog 11 #[.int .i64 n] w fun e w' => e = .returned (.string ⟨(digs 10 n).toArray⟩) ∧ Below w.heap.size w w' := by
  have h10 : (n : Int) < 10 := by omega
  have hcv : (convert 59 9 (.slice (some ⟨w.heap.size, 0, none⟩) 1 1)).run Tryd.prog (w.alloc (.cells #[.int .u8 (48 + n)] 5)) = .ok (.string ⟨#[hexc n]⟩) (w.alloc (.cells #[.int .u8 (48 + n)] 5)) := by
    have h9 := run_convert_bytes_arg (P := Tryd.prog) (w.alloc (.cells #[.int .u8 (48 + n)] 5)) 59 5 Tryd.underlying59 Tryd.underlying5 w.heap.size 0 1 1 [48 + (n : Int)] rfl (fun i hi => by
      obtain rfl : i = 0 := by omega
      exact (block_cell (heap_alloc_new w _) 0).trans rfl) 9 Tryd.underlying9
    rw [h9]
    have e : strOfNums [48 + (n : Int)] = ⟨#[hexc n]⟩ := by
      have h8 : (48 + (n : Int)).toNat = 48 + n := by omega
      rw [hexc, if_pos h]
      simp only [strOfNums, List.map_cons, List.map_nil, h8]
    rw [e]
  have e1 : IntKind.u8.wrap (48 + (n : Int)) = 48 + n := by simp [IntKind.wrap, IntKind.bits, IntKind.signed]; omega
  have E := hide (digs_small (b := 10) (u := n) h)
  go_enter Tryd.func11, Tryd.ntmps11
  go_wp2_with (fail)
  refine bodyPost_ret (by simp [results, Tryd.results11, go_sem]; try rfl) rfl ?_
  exact ⟨by rw [E.out], (Below.refl _ _).alloc (Nat.le_refl _) _⟩
set_option maxHeartbeats 2000000 in
theorem digits_any : ∀ (f n : Nat) (w : World), n < 10 ^ f → n < 4294967296 → Calls Tryd.prog 11 #[.int .i64 n] w fun e w' => e = .returned (.string ⟨(digs 10 n).toArray⟩) ∧ Below w.heap.size w w'
  | 0, n, w, h, _ => digits_small n w (by simp at h; omega)
  | f + 1, n, w, h, h2 => by
    by_cases h10 : n < 10
    · exact digits_small n w h10
    · have h10' : ¬ (n : Int) < 10 := by omega
      have hq : n / 10 < 10 ^ f := by rw [Nat.div_lt_iff_lt_mul (by decide)]; rw [Nat.pow_succ] at h; exact h
      obtain ⟨q, hqq⟩ : ∃ q, n / 10 = q := ⟨_, rfl⟩
      obtain ⟨r, hrr⟩ : ∃ r, n % 10 = r := ⟨_, rfl⟩
      have E := hide (digs_big (b := 10) (u := n) (by omega) (by decide))
      rw [hqq, hrr] at E
      rw [hqq] at hq
      have C1 := hide (fun W => digits_any f q W hq (by omega))
      have C2 := hide (fun W => digits_small r W (by omega))
      rw [digs_small (show r < 10 by omega)] at C2
      have e1 : (n : Int).tdiv 10 = (q : Int) := by rw [← hqq]; exact (Int.ofNat_tdiv n 10).symm
      have e2 : (n : Int).tmod 10 = (r : Int) := by rw [← hrr]; exact (Int.ofNat_tmod n 10).symm
      have e3 : (n : Int) / 10 = (q : Int) := by omega
      have e4 : (n : Int) % 10 = (r : Int) := by omega
      have hl := digs_len 10 (by decide) 10 q (Nat.lt_of_lt_of_le (show q < 4294967296 by omega) (by decide)) (by decide)
      have HR := hide (show r < 10 by omega)
      clear h hq hqq hrr
      obtain ⟨D, hD⟩ : ∃ D, digs 10 q = D := ⟨_, rfl⟩
      rw [hD] at C1 E hl
      clear hD
      go_enter Tryd.func11, Tryd.ntmps11
      go_wp2_with (fail)
      refine (C1.out w).mono ?_
      rintro e w1 ⟨rfl, hw1⟩
      go_wp2_with (fail)
      refine (C2.out w1).mono ?_
      rintro e w2 ⟨rfl, hw2⟩
      have HB := hide (hw1.trans (hw2.mono hw1.size))
      clear hw1 hw2
      go_wp2_with (fail)
      refine bodyPost_ret (by simp [results, Tryd.results11, go_sem]; try rfl) rfl ?_
      exact ⟨by rw [E.out, ← ba_app], HB.out⟩
theorem hexc_dig : ∀ u, u < 10 → isDig (hexc u) = true := by decide
theorem digs_dig : ∀ (f n : Nat), n < 10 ^ f → ∀ x ∈ digs 10 n, isDig x = true
  | 0, n, h, x, hx => by
    rw [digs_small (show n < 10 by simp at h; omega)] at hx
    rw [List.mem_singleton.1 hx]
    exact hexc_dig _ (by simp at h; omega)
  | f + 1, n, h, x, hx => by
    by_cases h10 : n < 10
    · rw [digs_small h10] at hx
      rw [List.mem_singleton.1 hx]
      exact hexc_dig _ h10
    · rw [digs_big (by omega) (by decide), List.mem_append] at hx
      rcases hx with hx | hx
      · exact digs_dig f _ (by rw [Nat.div_lt_iff_lt_mul (by decide)]; rw [Nat.pow_succ] at h; exact h) x hx
      · rw [List.mem_singleton.1 hx]
        exact hexc_dig _ (by omega)
theorem digs_ne (n : Nat) : digs 10 n ≠ [] := by
  by_cases h10 : n < 10
  · rw [digs_small h10]; simp
  · rw [digs_big (by omega) (by decide)]; simp
/-- The text of a fault that says a number. -/
def noT (a : Nat) : ByteArray := ⟨#[110, 111, 32]⟩ ++ ⟨(digs 10 a).toArray⟩
theorem noT_list (a : Nat) : (noT a).data.toList = [110, 111, 32] ++ digs 10 a := by
  unfold noT
  rw [ByteArray.data_append]
  simp
theorem noT_size {a : Nat} (h : a < 4294967296) : (noT a).size ≤ 13 := by
  have h1 := digs_len 10 (by decide) 10 a (Nat.lt_of_lt_of_le h (by decide)) (by decide)
  have h2 : (noT a).size = (noT a).data.toList.length := by rw [Array.length_toList]; rfl
  rw [h2, noT_list, List.length_append]
  simp
  omega
theorem noT_pl {a : Nat} (h : a < 4294967296) : pl (noT a).data.toList = [110, 111, 32, 60, 110, 62] := by
  rw [noT_list]
  exact pl_no _ (digs_dig 10 a (Nat.lt_of_lt_of_le h (by decide))) (digs_ne a)
theorem dig_text : ∀ n, n < 256 → isDig (UInt8.ofNat n) = true → (decide (32 ≤ (UInt8.ofNat n).toNat) && !decide ((UInt8.ofNat n).toNat = 127)) = true := by decide +kernel
theorem noT_text {a : Nat} (h : a < 4294967296) : textB (noT a) = true := by
  rw [textB, noT_list, List.all_append]
  have h1 : (digs 10 a).all (fun c => decide (32 ≤ c.toNat) && !decide (c.toNat = 127)) = true := by
    rw [List.all_eq_true]
    intro x hx
    have h2 := digs_dig 10 a (Nat.lt_of_lt_of_le h (by decide)) x hx
    have h3 := dig_text x.toNat x.toNat_lt
    rw [UInt8.ofNat_toNat] at h3
    exact h3 h2
  rw [h1]
  decide
/-- The errno that hangs on the kind alone. -/
def kindE (kind : ByteArray) : Int := if 200 < kind.size then 4 else if kindB kind = false then 9 else if emptyB kind = true then 1 else 0
theorem oneE_no (kind : ByteArray) {a : Nat} (h : a < 4294967296) : oneE kind (noT a) = kindE kind := by
  have h1 := noT_size h
  rw [oneE, kindE, noT_text h]
  by_cases h2 : 200 < kind.size
  · rw [if_pos h2, if_pos h2]
  · rw [if_neg h2, if_neg h2]
    by_cases h3 : kindB kind = false
    · rw [if_pos h3, if_pos h3]
    · rw [if_neg h3, if_neg h3]
      by_cases h4 : emptyB kind = true
      · rw [if_pos h4, if_pos h4]
      · rw [if_neg h4, if_neg h4, if_neg (by omega), if_neg (by decide)]
def kindP (kind : ByteArray) : ByteArray := if kindE kind = 0 then ⟨(dgT [kind, ⟨#[110, 111, 32, 60, 110, 62]⟩]).toArray⟩ else ⟨#[]⟩
theorem Print_no (kind : ByteArray) (a : Nat) (w : World) (hks : kind.size ≤ maxLen) (ha : a < 4294967296) (h : w.cell? ⟨9, 15, none⟩ = some (.int .u8 4)) (h3 : 9 < w.heap.size) :
    Calls Tryd.prog 10 #[.slice none 0 0, .slice (some ⟨w.heap.size, 0, none⟩) 1 1] (w.alloc (.cells #[.string kind, .string (noT a), .slice none 0 0] 36)) fun e w' => e = .returned (.tuple #[.string (kindP kind), .int .i64 (kindE kind)]) ∧ Below w.heap.size w w' := by
  have hn := heap_alloc_new w (.cells #[.string kind, .string (noT a), .slice none 0 0] 36)
  have hb : Below w.heap.size w (w.alloc (.cells #[.string kind, .string (noT a), .slice none 0 0] 36)) := (Below.refl _ _).alloc (Nat.le_refl _) _
  have hpl := noT_pl ha
  have hsz := noT_size ha
  refine (Print_one w.heap.size 0 1 kind (noT a) _ ((block_cell hn 0).trans rfl) ((block_cell hn 1).trans rfl) ((block_cell hn 2).trans rfl) (by simp) (by omega) hks (by rw [hpl]; decide) ((hb.cell (p := ⟨9, 15, none⟩) h3).trans h) (by simp; omega)).mono ?_
  rintro e w' ⟨rfl, hb'⟩
  refine ⟨?_, hb.trans (hb'.mono (by simp))⟩
  rw [oneE_no kind ha, hpl]
  rfl
set_option maxRecDepth 100000 in
set_option maxHeartbeats 4000000 in
theorem GroupSteady_any (s kind : ByteArray) (a b : Nat) (w : World) (hs : s.size ≤ 1048576) (hk : kind.size ≤ 1048576) (ha : a < 4294967296) (hb : b < 4294967296) (h : w.cell? ⟨9, 15, none⟩ = some (.int .u8 4)) (h3 : 9 < w.heap.size) :
    Calls Tryd.prog 4 #[.string s, .string kind, .int .u32 a, .int .u32 b] w fun e w' => e = .returned (.bool true) ∧ Below w.heap.size w w' := by
  obtain ⟨P, hP⟩ : ∃ P, pl s.data.toList = P := ⟨_, rfl⟩
  have hpl : P.length ≤ 3 * s.data.toList.length := by rw [← hP]; exact pl_len _ _
  have hsl : s.data.toList.length = s.size := by rw [Array.length_toList]; rfl
  have C1 := hide (fun W => Plain_any s W (by omega))
  rw [hP] at C1
  have C2 := hide (fun W => show Calls Tryd.prog 9 #[.string ⟨P.toArray⟩] W fun e w' => e = .returned (.string ⟨P.toArray⟩) ∧ Below W.heap.size W w' from (Plain_any ⟨P.toArray⟩ W (by simp [ByteArray.size]; omega)).mono fun e w' hh => ⟨by rw [hh.1]; show _ = Ending.returned (.string ⟨P.toArray⟩); rw [show pl (⟨P.toArray⟩ : ByteArray).data.toList = P from by show pl P = P; rw [← hP]; exact pl_pl _], hh.2⟩)
  have HT := hide (show ∀ W, Below w.heap.size w W → W.cell? ⟨9, 15, none⟩ = some (.int .u8 4) ∧ 9 < W.heap.size from fun W hb => ⟨(hb.cell (p := ⟨9, 15, none⟩) h3).trans h, Nat.lt_of_lt_of_le h3 hb.size⟩)
  have CD := hide (fun (n : Nat) (hn : n < 4294967296) W => digits_any 10 n W (Nat.lt_of_lt_of_le hn (by decide)) hn)
  have CP := hide (fun (n : Nat) (hn : n < 4294967296) (W : World) (hb : Below w.heap.size w W) => Print_no kind n W (by unfold maxLen; omega) hn (HT.out W hb).1 (HT.out W hb).2)
  have ea : IntKind.i64.wrap (a : Int) = a := by simp [IntKind.wrap, IntKind.bits, IntKind.signed]; omega
  have eb : IntKind.i64.wrap (b : Int) = b := by simp [IntKind.wrap, IntKind.bits, IntKind.signed]; omega
  have HNA := noT_size ha
  have HNB := noT_size hb
  have HA := hide ha
  have HB := hide hb
  clear h hP hpl hsl ha hb
  go_enter Tryd.func4, Tryd.ntmps4
  go_wp2_with (go_at_call 8; refine (awakeGroup_any _).mono ?_; rintro e w1 ⟨rfl, hw1⟩; have HB1 := hide hw1; clear hw1)
  refine (C1.out w1).mono ?_
  rintro e w2 ⟨rfl, hw2⟩
  have HB2 := hide (HB1.out.trans (hw2.mono HB1.out.size))
  clear hw2
  go_wp2_with (fail)
  refine (C2.out w2).mono ?_
  rintro e w3 ⟨rfl, hw3⟩
  have HB3 := hide (HB2.out.trans (hw3.mono HB2.out.size))
  clear hw3
  go_wp2_with (fail)
  refine (CD.out a HA.out w3).mono ?_
  rintro e w4 ⟨rfl, hw4⟩
  have HB4 := hide (HB3.out.trans (hw4.mono HB3.out.size))
  clear hw4
  obtain ⟨DA, hDA⟩ : ∃ DA : ByteArray, ⟨(digs 10 a).toArray⟩ = DA := ⟨_, rfl⟩
  have HDA := hide (show (⟨#[110, 111, 32]⟩ : ByteArray) ++ DA = noT a by rw [← hDA]; rfl)
  rw [hDA]
  clear hDA
  have hda : DA.size ≤ 13 := by
    have h9 := HNA
    rw [← HDA.out, ByteArray.size_append] at h9
    omega
  go_wp2_with (fail)
  rw [HDA.out]
  refine (CP.out a HA.out w4 HB4.out).mono ?_
  rintro e w5 ⟨rfl, hw5⟩
  have HB5 := hide (HB4.out.trans (hw5.mono HB4.out.size))
  clear hw5
  go_wp2_with (fail)
  refine (CD.out b HB.out w5).mono ?_
  rintro e w6 ⟨rfl, hw6⟩
  have HB6 := hide (HB5.out.trans (hw6.mono HB5.out.size))
  clear hw6
  obtain ⟨DB, hDB⟩ : ∃ DB : ByteArray, ⟨(digs 10 b).toArray⟩ = DB := ⟨_, rfl⟩
  have HDB := hide (show (⟨#[110, 111, 32]⟩ : ByteArray) ++ DB = noT b by rw [← hDB]; rfl)
  rw [hDB]
  clear hDB
  have hdb : DB.size ≤ 13 := by
    have h9 := HNB
    rw [← HDB.out, ByteArray.size_append] at h9
    omega
  go_wp2_with (fail)
  rw [HDB.out]
  refine (CP.out b HB.out w6 HB6.out).mono ?_
  rintro e w7 ⟨rfl, hw7⟩
  have HB7 := hide (HB6.out.trans (hw7.mono HB6.out.size))
  clear hw7
  go_wp2_with (fail)
  refine bodyPost_ret (by simp [results, Tryd.results4, go_sem]; try rfl) rfl ?_
  exact ⟨rfl, HB7.out⟩
end Go.Proofs.YtomihkflhhhpjaaDoor
